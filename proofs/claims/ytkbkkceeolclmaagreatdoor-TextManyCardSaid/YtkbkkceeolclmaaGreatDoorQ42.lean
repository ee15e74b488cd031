/- The document's reader; a word's term. -/
import Derived.Test.YtkbkkceeolclmaaGreatDoorQ38
import Derived.Test.YtkbkkceeolclmaaGreatDoorQ09
set_option linter.unusedVariables false
set_option linter.unusedSimpArgs false
namespace Go.TX
open Go.Lib
/-- A word's term, whether it is one; the names then. -/
def termD (ns : List (List UInt8)) (s : List UInt8) : (Tm × Bool) × List (List UInt8) :=
  if s.head? = some 63 then (((true, number s.tail), decide (1 ≤ number s.tail)), ns)
  else if rightName (str s) then (((false, ((findN (addN ns s) s : Nat) : Int)), true), addN ns s) else (((false, 0), false), ns)
theorem termD_pterm (ns : List (List UInt8)) (s : List UInt8) : pterm ns s = if (termD ns s).1.2 = true then some ((termD ns s).2, (termD ns s).1.1) else none := by
  unfold termD
  by_cases h : s.head? = some 63
  · rw [if_pos h]
    obtain ⟨v, rfl⟩ : ∃ v, s = 63 :: v := by
      cases s with
      | nil => cases h
      | cons a t => cases h; exact ⟨t, rfl⟩
    have e : pterm ns (63 :: v) = if 1 ≤ number v then some (ns, (true, number v)) else none := rfl
    rw [e, List.tail_cons]
    by_cases hv : 1 ≤ number v
    · rw [if_pos hv, if_pos (decide_eq_true hv)]
    · rw [if_neg hv, if_neg (by simpa using hv)]
  · rw [if_neg h]
    have e : pterm ns s = (psym ns s).map fun p => (p.1, (false, p.2)) := by
      unfold pterm
      split
      · simp at h
      · rfl
    rw [e]
    unfold psym
    by_cases hr : rightName (str s) = true
    · rw [if_pos hr, if_pos hr]; rfl
    · rw [if_neg hr, if_neg hr]; rfl
theorem termD_len (ns : List (List UInt8)) (s : List UInt8) : (termD ns s).2.length ≤ ns.length + 1 := by
  unfold termD
  split
  · simp
  · split
    · exact addN_len ns s
    · simp
theorem str_cut (a : UInt8) (v : List UInt8) : (str (a :: v)).extract 1 (str (a :: v)).size = str v := by
  apply ByteArray.ext
  have e : (str (a :: v)).size = v.length + 1 := by rw [str_size]; rfl
  rw [e]
  simp [str]
theorem str_head' (v : List UInt8) (k : UInt8) (h : 0 < (str v).size) : ((((str v)[0]'h).toNat : Int) == (k.toNat : Int)) = decide (v.head? = some k) := by
  cases v with
  | nil => simp [str_size] at h
  | cons a t =>
    rw [Bool.eq_iff_iff, beq_iff_eq, decide_eq_true_iff]
    have e : ((str (a :: t))[0]'h) = a := rfl
    rw [e]
    simp only [List.head?_cons, Option.some.injEq]
    constructor
    · intro q
      apply UInt8.toNat_inj.1
      omega
    · rintro rfl
      rfl
end Go.TX
namespace Go.Proofs.YtkbkkceeolclmaaGreatDoor.X
open Go.RowKit Go.TX Go.Proofs.YtkbkkceeolclmaaGreatDoorW.PrintWords Go.Proofs.YtkbkkceeolclmaaGreatDoorL
abbrev rdO (V U : Value) (k bad : Int) : Obj := .cells #[V, .int .i64 k, U, .int .i64 bad] 97
abbrev z78 : Obj := .cells #[.int .i64 0, .int .i64 0] 78
/-- The document's reader in memory: words, a place, the names so far, whether something is none. -/
def DRd (w : World) (r : Nat) (V : Value) (ws ns : List (List UInt8)) (k bad : Int) : Prop := ∃ U, w.heap[r]? = some (rdO V U k bad) ∧ RN w V ws ∧ RN w U ns
theorem DRd.below {w W : World} {r : Nat} {V : Value} {ws ns : List (List UInt8)} {k bad : Int} (h : DRd w r V ws ns k bad) (hb : Below w.heap.size w W) : DRd W r V ws ns k bad := by
  obtain ⟨U, h1, h2, h3⟩ := h
  exact ⟨U, (hb.block r (blk_lt h1)).trans h1, h2.below hb, h3.below hb⟩
theorem DRd.bad {w : World} {r : Nat} {V : Value} {ws ns : List (List UInt8)} {k bad : Int} (h : DRd w r V ws ns k bad) (b : Int) : DRd (w.setCell ⟨r, 3, none⟩ (.int .i64 b)) r V ws ns k b := by
  obtain ⟨U, h1, h2, h3⟩ := h
  exact ⟨_, blk_put h1 3 _ rfl, h2.set h1 (by decide) 3 _, h3.set h1 (by decide) 3 _⟩
theorem DRd.place {w : World} {r : Nat} {V : Value} {ws ns : List (List UInt8)} {k bad : Int} (h : DRd w r V ws ns k bad) (b : Int) : DRd (w.setCell ⟨r, 1, none⟩ (.int .i64 b)) r V ws ns b bad := by
  obtain ⟨U, h1, h2, h3⟩ := h
  exact ⟨_, blk_put h1 1 _ rfl, h2.set h1 (by decide) 1 _, h3.set h1 (by decide) 1 _⟩
theorem DRd.names {w : World} {r : Nat} {V : Value} {ws ns ms : List (List UInt8)} {k bad : Int} (h : DRd w r V ws ns k bad) {u : Value} (hu : RN w u ms) : DRd (w.setCell ⟨r, 2, none⟩ u) r V ws ms k bad := by
  obtain ⟨U, h1, h2, h3⟩ := h
  exact ⟨_, blk_put h1 2 _ rfl, h2.set h1 (by decide) 2 _, hu.set h1 (by decide) 2 _⟩
/-- A write to another block, that holds no strings. -/
theorem DRd.far {w : World} {r : Nat} {V : Value} {ws ns : List (List UInt8)} {k bad : Int} (h : DRd w r V ws ns k bad) {g : Nat} {cs : Array Value} {ty : TypeId} (hg : w.heap[g]? = some (.cells cs ty (0, 0))) (hs : ty ≠ 9) (hr : g ≠ r) (q : Nat) (u : Value) : DRd (w.setCell ⟨g, q, none⟩ u) r V ws ns k bad := by
  obtain ⟨U, h1, h2, h3⟩ := h
  exact ⟨U, blk_far h1 (p := ⟨g, q, none⟩) (Ne.symm hr) _, h2.set hg hs q u, h3.set hg hs q u⟩
def DTPost (w : World) (r : Nat) (V : Value) (ws : List (List UInt8)) (k bad : Int) (res : (Tm × Bool) × List (List UInt8)) (e : Ending) (W : World) : Prop :=
  e = .returned (.agg #[evR res.1.1.1, .int .i64 res.1.1.2]) ∧ Ch w W (fun b => b = r) ∧ DRd W r V ws res.2 k (if res.1.2 = true then bad else 1)
theorem DTPost.of {w W : World} {r g : Nat} {V : Value} {ws ns : List (List UInt8)} {k bad : Int} {v : Bool} {n x y : Int} {ok : Bool} (hc : Ch w W (fun b => b = r)) (hd : DRd W r V ws ns k (if ok = true then bad else 1)) (hg : W.heap[g]? = some (.cells #[.int .i64 x, .int .i64 y] 78)) (hl : w.heap.size ≤ g) (hr : g ≠ r) :
    DTPost w r V ws k bad (((v, n), ok), ns) (.returned (.agg #[evR v, .int .i64 n])) ((W.setCell ⟨g, 0, none⟩ (evR v)).setCell ⟨g, 1, none⟩ (.int .i64 n)) := by
  have x1 := blk_put hg 0 (evR v) rfl
  exact ⟨rfl, (hc.setCell ⟨g, 0, none⟩ (fun q => by have : g < w.heap.size := q; omega) _).setCell ⟨g, 1, none⟩ (fun q => by have : g < w.heap.size := q; omega) _, (hd.far hg (by decide) hr 0 _).far x1 (by decide) hr 1 _⟩
set_option maxRecDepth 100000 in
set_option maxHeartbeats 4000000 in
theorem dterm_walk {w : World} {r : Nat} {V : Value} {ws ns : List (List UInt8)} {k bad : Int} (h : DRd w r V ws ns k bad) (hnl : ns.length ≤ 100000) (s : List UInt8) (hs : s.length ≤ 2000) :
    Calls Tryz.prog 63 #[.pointer (some ⟨r, 0, none⟩), .string (str s)] w (DTPost w r V ws k bad (termD ns s)) := by
  have hB0 := Aside0.mk ((Below.refl w.heap.size w).alloc (Nat.le_refl _) z78)
  have hx0 := Aside0.mk (blk_new w z78)
  have h0 := Aside0.mk (h.below hB0.out)
  have hr : r < w.heap.size := by obtain ⟨U, h1, _⟩ := h; exact blk_lt h1
  have hC0 := Aside0.mk (Ch.of_below hB0.out (fun b => b = r))
  obtain ⟨⟨⟨⟨tv, nv⟩, ok⟩, rns⟩, hres⟩ : ∃ q, termD ns s = q := ⟨_, rfl⟩
  rw [hres]
  clear h
  go_enter Tryz.func63, Tryz.ntmps63
  go_upto_region 1 with fail
  generalize w.alloc z78 = W0 at hB0 hx0 h0 hC0 ⊢
  generalize hg : w.heap.size = g at hx0 hr ⊢
  replace hg := Aside0.mk hg
  have hgr : g ≠ r := by omega
  by_cases hq : s.head? = some 63
  · obtain ⟨v, rfl⟩ : ∃ v, s = 63 :: v := by
      cases s with
      | nil => cases hq
      | cons a t => cases hq; exact ⟨t, rfl⟩
    unfold termD at hres
    rw [if_pos hq] at hres
    simp only [Prod.mk.injEq, List.tail_cons] at hres
    obtain ⟨⟨⟨rfl, hnv⟩, hok⟩, rfl⟩ := hres
    replace hok : ok = decide (1 ≤ nv) := by subst hnv; exact hok.symm
    have hsz0 : 0 < (str (63 :: v)).size := by rw [str_size]; simp
    have hv0 := str_head' (63 :: v) 63 hsz0
    rw [decide_eq_true (by rfl), show (((63 : UInt8).toNat : Nat) : Int) = 63 from rfl] at hv0
    generalize hS : str (63 :: v) = S at hsz0 hv0
    replace hS := Aside0.mk hS
    obtain ⟨U, h1, _⟩ := id h0.out
    have b3 := (blk_cell h1 3).trans (show _ = some (Value.int .i64 bad) from rfl)
    have f3 := blk_frozen h1 3
    have n0 := blk_frozen hx0.out 0
    have n1 := blk_frozen hx0.out 1
    clear h1 hq
    have hnum := Aside0.mk (fun W => refNumber_any (S.extract 1 S.size) W)
    have hcut : (S.extract 1 S.size).data.toList = v := by rw [← hS.out, str_cut]
    rw [hcut, hnv] at hnum
    clear hcut hnv
    go_upto_region 3 with (go_at_call 84; refine (hnum.out _).mono ?_; rintro e w1 ⟨rfl, hb1⟩; have h1 := Aside0.mk (h0.out.below hb1); have hx1 := Aside0.mk ((hb1.block g (blk_lt hx0.out)).trans hx0.out); have hC1 := Aside0.mk (hC0.out.then (Ch.of_below hb1 (fun b => b = r)) (fun b _ q => q)); clear hb1)
    clear h0 hx0 hC0 hB0 b3 f3 n0 n1 hnum
    obtain ⟨U, k1, _⟩ := id h1.out
    have f3 := blk_frozen k1 3
    have b3 := (blk_cell k1 3).trans (show _ = some (Value.int .i64 bad) from rfl)
    by_cases hn : nv < 1
    · obtain rfl : ok = false := hok.trans (decide_eq_false (by omega))
      clear hok
      have hd2 := Aside0.mk (h1.out.bad 1)
      have hx2 := Aside0.mk (blk_far hx1.out (p := ⟨r, 3, none⟩) hgr (.int .i64 1))
      have hC2 := Aside0.mk (hC1.out.setCell ⟨r, 3, none⟩ (fun _ => rfl) (.int .i64 1))
      go_upto_region 5 with fail
      clear b3 f3
      generalize w1.setCell ⟨r, 3, none⟩ (.int .i64 1) = W2 at hd2 hx2 hC2 ⊢
      have n0 := blk_frozen hx2.out 0
      have n1 := blk_frozen hx2.out 1
      have e0 := (blk_cell hx2.out 0).trans (show _ = some (Value.int .i64 0) from rfl)
      have e1 := (blk_cell hx2.out 1).trans (show _ = some (Value.int .i64 0) from rfl)
      go_wp2
      have hx8 := blk_put (blk_put hx2.out 0 (.int .i64 1) rfl) 1 (.int .i64 nv) rfl
      have z0 := (blk_cell hx8 0).trans (show _ = some (Value.int .i64 1) from rfl)
      have z1 := (blk_cell hx8 1).trans (show _ = some (Value.int .i64 nv) from rfl)
      exact bodyPost_ret (v := .agg #[.int .i64 1, .int .i64 nv]) (by simp [results, Tryz.results63, go_sem, z0, z1]) rfl (DTPost.of (v := true) (n := nv) (bad := bad) (ok := false) hC2.out hd2.out hx2.out (Nat.le_of_eq hg.out) hgr)
    · obtain rfl : ok = true := hok.trans (decide_eq_true (by omega))
      clear hok
      have n0 := blk_frozen hx1.out 0
      have n1 := blk_frozen hx1.out 1
      have e0 := (blk_cell hx1.out 0).trans (show _ = some (Value.int .i64 0) from rfl)
      have e1 := (blk_cell hx1.out 1).trans (show _ = some (Value.int .i64 0) from rfl)
      go_wp2
      have hx8 := blk_put (blk_put hx1.out 0 (.int .i64 1) rfl) 1 (.int .i64 nv) rfl
      have z0 := (blk_cell hx8 0).trans (show _ = some (Value.int .i64 1) from rfl)
      have z1 := (blk_cell hx8 1).trans (show _ = some (Value.int .i64 nv) from rfl)
      exact bodyPost_ret (v := .agg #[.int .i64 1, .int .i64 nv]) (by simp [results, Tryz.results63, go_sem, z0, z1]) rfl (DTPost.of (v := true) (n := nv) (ok := true) hC1.out h1.out hx1.out (Nat.le_of_eq hg.out) hgr)
  · have hgu : Aside0 (((str s).size = 0) ∨ ∃ h : 0 < (str s).size, ((((str s)[0]'h).toNat : Int) == 63) = false) := ⟨by
      by_cases h0 : (str s).size = 0
      · exact .inl h0
      · refine .inr ⟨by omega, ?_⟩
        have := str_head' s 63 (by omega)
        rw [show (((63 : UInt8).toNat : Nat) : Int) = 63 from rfl, decide_eq_false hq] at this
        exact this⟩
    unfold termD at hres
    rw [if_neg hq] at hres
    have hrt := rright_walk (str s) (by rw [str_size]; omega)
    obtain ⟨U, h1, hV, hU⟩ := id h0.out
    obtain ⟨B, d, rfl, hd, _⟩ := hU.reads
    have hadd := Aside0.mk (fun W (q : RN W (.slice B ns.length d) ns) => radd2 q (by omega) s)
    replace hU := Aside0.mk hU
    have b2 := (blk_cell h1 2).trans (show _ = some (Value.slice B ns.length d) from rfl)
    have b3 := (blk_cell h1 3).trans (show _ = some (Value.int .i64 bad) from rfl)
    have f2 := blk_frozen h1 2
    have f3 := blk_frozen h1 3
    clear h1 hV hq
    by_cases hr2 : rightName (str s) = true
    · rw [if_pos hr2] at hres
      rw [hr2] at hrt
      simp only [Prod.mk.injEq] at hres
      obtain ⟨⟨⟨rfl, hfn⟩, rfl⟩, hms⟩ := hres
      rw [hfn, hms] at hadd
      replace hrt := Aside0.mk hrt
      clear hfn hms
      generalize str s = S at hgu hrt hadd
      clear hr2
      rcases hgu.out with hz | ⟨hz, hh⟩
      all_goals
        go_upto_region 10 with (first | (go_at_call 42; refine (hrt.out _).mono ?_; rintro e w1 ⟨rfl, rfl⟩) | (go_at_call 45; refine (hadd.out _ hU.out).mono ?_; rintro e w4 ⟨u4, rfl, hR4, hb4⟩; obtain ⟨A4, c4, rfl, -⟩ := hR4.reads; replace hR4 := Aside0.mk hR4; replace hb4 := Aside0.mk hb4))
        have hd4 := Aside0.mk ((h0.out.below hb4.out).names hR4.out)
        have hx4 := Aside0.mk (blk_far ((hb4.out.block g (blk_lt hx0.out)).trans hx0.out) (p := ⟨r, 2, none⟩) hgr (.slice A4 rns.length c4))
        have hC4 := Aside0.mk ((hC0.out.then (Ch.of_below hb4.out (fun b => b = r)) (fun b _ q => q)).setCell ⟨r, 2, none⟩ (fun _ => rfl) (.slice A4 rns.length c4))
        obtain ⟨U, k1, _⟩ := id (h0.out.below hb4.out)
        have g2 := blk_frozen k1 2
        have c2 := (blk_cell k1 2).trans (show _ = some U from rfl)
        clear k1 b2 b3 f2 f3
        go_upto_region 11 with fail
        generalize w4.setCell ⟨r, 2, none⟩ (.slice A4 rns.length c4) = W5 at hd4 hx4 hC4 ⊢
        have n0 := blk_frozen hx4.out 0
        have n1 := blk_frozen hx4.out 1
        have e0 := (blk_cell hx4.out 0).trans (show _ = some (Value.int .i64 0) from rfl)
        have e1 := (blk_cell hx4.out 1).trans (show _ = some (Value.int .i64 0) from rfl)
        go_wp2
        have hx8 := blk_put (blk_put hx4.out 0 (.int .i64 0) rfl) 1 (.int .i64 nv) rfl
        have z0 := (blk_cell hx8 0).trans (show _ = some (Value.int .i64 0) from rfl)
        have z1 := (blk_cell hx8 1).trans (show _ = some (Value.int .i64 nv) from rfl)
        exact bodyPost_ret (v := .agg #[.int .i64 0, .int .i64 nv]) (by simp [results, Tryz.results63, go_sem, z0, z1]) rfl (DTPost.of (v := false) (n := nv) (ok := true) hC4.out hd4.out hx4.out (Nat.le_of_eq hg.out) hgr)
    · rw [if_neg hr2] at hres
      simp only [Bool.not_eq_true] at hr2
      rw [hr2] at hrt
      simp only [Prod.mk.injEq] at hres
      obtain ⟨⟨⟨rfl, rfl⟩, rfl⟩, rfl⟩ := hres
      replace hrt := Aside0.mk hrt
      generalize str s = S at hgu hrt
      clear hr2 hadd
      have hd2 := Aside0.mk (h0.out.bad 1)
      have hx2 := Aside0.mk (blk_far hx0.out (p := ⟨r, 3, none⟩) hgr (.int .i64 1))
      have hC2 := Aside0.mk (hC0.out.setCell ⟨r, 3, none⟩ (fun _ => rfl) (.int .i64 1))
      rcases hgu.out with hz | ⟨hz, hh⟩
      all_goals
        go_upto_region 8 with (go_at_call 42; refine (hrt.out _).mono ?_; rintro e w1 ⟨rfl, rfl⟩)
        clear b2 b3 f2 f3
        generalize W0.setCell ⟨r, 3, none⟩ (.int .i64 1) = W2 at hd2 hx2 hC2 ⊢
        have n0 := blk_frozen hx2.out 0
        have n1 := blk_frozen hx2.out 1
        have e0 := (blk_cell hx2.out 0).trans (show _ = some (Value.int .i64 0) from rfl)
        have e1 := (blk_cell hx2.out 1).trans (show _ = some (Value.int .i64 0) from rfl)
        go_wp2
        have hx8 := blk_put (blk_put hx2.out 0 (.int .i64 0) rfl) 1 (.int .i64 0) rfl
        have z0 := (blk_cell hx8 0).trans (show _ = some (Value.int .i64 0) from rfl)
        have z1 := (blk_cell hx8 1).trans (show _ = some (Value.int .i64 0) from rfl)
        exact bodyPost_ret (v := .agg #[.int .i64 0, .int .i64 0]) (by simp [results, Tryz.results63, go_sem, z0, z1]) rfl (DTPost.of (v := false) (n := 0) (bad := bad) (ok := false) hC2.out hd2.out hx2.out (Nat.le_of_eq hg.out) hgr)
end Go.Proofs.YtkbkkceeolclmaaGreatDoor.X
