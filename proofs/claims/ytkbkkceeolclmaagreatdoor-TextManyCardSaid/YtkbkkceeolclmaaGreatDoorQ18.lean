/- The condition of three words. -/
import Derived.Test.YtkbkkceeolclmaaGreatDoorQ09
import Derived.Test.YtkbkkceeolclmaaGreatDoorQ17
set_option linter.unusedVariables false
set_option linter.unusedSimpArgs false
namespace Go.Proofs.YtkbkkceeolclmaaGreatDoor.X
open Go.RowKit Go.TX Go.Proofs.YtkbkkceeolclmaaGreatDoorW.PrintWords Go.Proofs.YtkbkkceeolclmaaGreatDoorL
abbrev z72' : Obj := .cells #[.int .i64 0, .bool false, .int .i64 0, .bool false, .int .i64 0, .bool false, .int .i64 0, .slice none 0 0] 72
theorem RdE.words {w : World} {T F : Nat → Prop} {r tb : Nat} {ws ns fr : List (List UInt8)} (h : RdE w T F r tb ws ns fr) : ∃ A c p f m, w.heap[r]? = some (.cells #[.slice A ws.length c, p, f, m] 88 (0, 0)) ∧ WordsAt w (fun b => F b ∨ T b) (.slice A ws.length c) ws := by
  obtain ⟨Wv, Fv, sm, h⟩ := h
  obtain ⟨A, c, rfl, _⟩ := id h.words
  exact ⟨A, c, _, _, _, h.head, h.words⟩
set_option maxRecDepth 100000 in
set_option maxHeartbeats 8000000 in
theorem three_none {w : World} {T F : Nat → Prop} {r tb : Nat} {ws ns fr : List (List UInt8)} (h : RdE w T F r tb ws ns fr) (hs : ws.length < 3) :
    Calls Tryz.prog 61 #[.pointer (some ⟨r, 0, none⟩)] w fun e W => (∃ u, e = .returned (.tuple #[u, .bool false]) ∧ ∃ k a b c A n m, u = aC evA k a b c (.slice A n m)) ∧ Fr w W F ∧ RdX w F W T r tb ws ns fr := by
  have hB0 := Aside0.mk ((Below.refl w.heap.size w).alloc (Nat.le_refl _) z72')
  have hx0 := Aside0.mk (blk_new w z72')
  have h0 := Aside0.mk (h.below hB0.out)
  obtain ⟨A, c, p, f, m, hh, hw⟩ := h0.out.words
  have r0 := (blk_cell hh 0).trans (show _ = some (Value.slice A ws.length c) from rfl)
  clear hh hw h
  go_enter Tryz.func61, Tryz.ntmps61
  go_upto_region 1 with fail
  generalize w.alloc z72' = W0 at hB0 hx0 h0 r0 ⊢
  generalize hg : w.heap.size = g at hx0 ⊢
  replace hg := Aside0.mk hg
  have f0 := blk_frozen hx0.out 0
  have f1 := blk_frozen hx0.out 1
  have f2 := blk_frozen hx0.out 2
  have f3 := blk_frozen hx0.out 3
  have f4 := blk_frozen hx0.out 4
  have f5 := blk_frozen hx0.out 5
  have f6 := blk_frozen hx0.out 6
  have f7 := blk_frozen hx0.out 7
  have q0 := (blk_cell hx0.out 0).trans (show _ = some (Value.int .i64 0) from rfl)
  have q1 := (blk_cell hx0.out 1).trans (show _ = some (Value.bool false) from rfl)
  have q2 := (blk_cell hx0.out 2).trans (show _ = some (Value.int .i64 0) from rfl)
  have q3 := (blk_cell hx0.out 3).trans (show _ = some (Value.bool false) from rfl)
  have q4 := (blk_cell hx0.out 4).trans (show _ = some (Value.int .i64 0) from rfl)
  have q5 := (blk_cell hx0.out 5).trans (show _ = some (Value.bool false) from rfl)
  have q6 := (blk_cell hx0.out 6).trans (show _ = some (Value.int .i64 0) from rfl)
  have q7 := (blk_cell hx0.out 7).trans (show _ = some (Value.slice none 0 0) from rfl)
  go_wp2
  have hx8 := (blk_put (blk_put (blk_put (blk_put (blk_put (blk_put (blk_put (blk_put hx0.out 0 (.int .i64 0) rfl) 1 (.bool false) rfl) 2 (.int .i64 0) rfl) 3 (.bool false) rfl) 4 (.int .i64 0) rfl) 5 (.bool false) rfl) 6 (.int .i64 0) rfl) 7 (.slice none 0 0) rfl)
  replace hx8 := (show _ = some (oC evA 72 0 (false, 0) (false, 0) (false, 0) (.slice none 0 0)) from hx8)
  have z0 := (blk_cell hx8 0).trans (show _ = some (Value.int .i64 0) from rfl)
  have z1 := (blk_cell hx8 1).trans (show _ = some (Value.bool false) from rfl)
  have z2 := (blk_cell hx8 2).trans (show _ = some (Value.int .i64 0) from rfl)
  have z3 := (blk_cell hx8 3).trans (show _ = some (Value.bool false) from rfl)
  have z4 := (blk_cell hx8 4).trans (show _ = some (Value.int .i64 0) from rfl)
  have z5 := (blk_cell hx8 5).trans (show _ = some (Value.bool false) from rfl)
  have z6 := (blk_cell hx8 6).trans (show _ = some (Value.int .i64 0) from rfl)
  have z7 := (blk_cell hx8 7).trans (show _ = some (Value.slice none 0 0) from rfl)
  refine bodyPost_ret (v := .tuple #[aC evA 0 (false, 0) (false, 0) (false, 0) (.slice none 0 0), .bool false]) (by simp [results, Tryz.results61, go_sem, z0, z1, z2, z3, z4, z5, z6, z7]) rfl ⟨⟨_, rfl, _, _, _, _, _, _, _, rfl⟩, (((((((((Fr.of_below hB0.out F).set (p := ⟨g, 0, none⟩) (Nat.le_of_eq hg.out) _).set (p := ⟨g, 1, none⟩) (Nat.le_of_eq hg.out) _).set (p := ⟨g, 2, none⟩) (Nat.le_of_eq hg.out) _).set (p := ⟨g, 3, none⟩) (Nat.le_of_eq hg.out) _).set (p := ⟨g, 4, none⟩) (Nat.le_of_eq hg.out) _).set (p := ⟨g, 5, none⟩) (Nat.le_of_eq hg.out) _).set (p := ⟨g, 6, none⟩) (Nat.le_of_eq hg.out) _).set (p := ⟨g, 7, none⟩) (Nat.le_of_eq hg.out) _), RdX.same ((((((((h0.out.set hx0.out (by decide) (by decide) (by decide) 0 (.int .i64 0)).set (blk_put hx0.out 0 (.int .i64 0) rfl) (by decide) (by decide) (by decide) 1 (.bool false)).set (blk_put (blk_put hx0.out 0 (.int .i64 0) rfl) 1 (.bool false) rfl) (by decide) (by decide) (by decide) 2 (.int .i64 0)).set (blk_put (blk_put (blk_put hx0.out 0 (.int .i64 0) rfl) 1 (.bool false) rfl) 2 (.int .i64 0) rfl) (by decide) (by decide) (by decide) 3 (.bool false)).set (blk_put (blk_put (blk_put (blk_put hx0.out 0 (.int .i64 0) rfl) 1 (.bool false) rfl) 2 (.int .i64 0) rfl) 3 (.bool false) rfl) (by decide) (by decide) (by decide) 4 (.int .i64 0)).set (blk_put (blk_put (blk_put (blk_put (blk_put hx0.out 0 (.int .i64 0) rfl) 1 (.bool false) rfl) 2 (.int .i64 0) rfl) 3 (.bool false) rfl) 4 (.int .i64 0) rfl) (by decide) (by decide) (by decide) 5 (.bool false)).set (blk_put (blk_put (blk_put (blk_put (blk_put (blk_put hx0.out 0 (.int .i64 0) rfl) 1 (.bool false) rfl) 2 (.int .i64 0) rfl) 3 (.bool false) rfl) 4 (.int .i64 0) rfl) 5 (.bool false) rfl) (by decide) (by decide) (by decide) 6 (.int .i64 0)).set (blk_put (blk_put (blk_put (blk_put (blk_put (blk_put (blk_put hx0.out 0 (.int .i64 0) rfl) 1 (.bool false) rfl) 2 (.int .i64 0) rfl) 3 (.bool false) rfl) 4 (.int .i64 0) rfl) 5 (.bool false) rfl) 6 (.int .i64 0) rfl) (by decide) (by decide) (by decide) 7 (.slice none 0 0))⟩
theorem RdE.three {w : World} {T F : Nat → Prop} {r tb : Nat} {x y z : List UInt8} {rest ns fr : List (List UInt8)} (h : RdE w T F r tb (x :: y :: z :: rest) ns fr) :
    ∃ bw o c p f m, w.heap[r]? = some (.cells #[.slice (some ⟨bw, o, none⟩) (rest.length + 3) c, p, f, m] 88 (0, 0)) ∧ w.cell? ⟨bw, o, none⟩ = some (.string (str x)) ∧ w.cell? ⟨bw, o + 1, none⟩ = some (.string (str y)) ∧ w.cell? ⟨bw, o + 2, none⟩ = some (.string (str z)) ∧ rest.length + 3 ≤ c := by
  obtain ⟨A, c, p, f, m, hh, hw⟩ := h.words
  obtain ⟨A', c', e, h1, _, h3⟩ := hw
  cases e
  obtain ⟨b0, o0, e0, _, _, c0⟩ := h3 0 (by simp)
  obtain ⟨b1, o1, e1, _, _, c1⟩ := h3 1 (by simp)
  obtain ⟨b2, o2, e2, _, _, c2⟩ := h3 2 (by simp)
  subst e0
  cases e1
  cases e2
  exact ⟨b0, o0, c, p, f, m, hh, by simpa using c0, by simpa using c1, by simpa using c2, by simpa using h1⟩
theorem RdE.three' {w : World} {T F : Nat → Prop} {r tb : Nat} {x y z : List UInt8} {rest ns fr : List (List UInt8)} (h : RdE w T F r tb (x :: y :: z :: rest) ns fr) :
    ∃ bw o c p f m, w.heap[r]? = some (.cells #[.slice (some ⟨bw, o, none⟩) (rest.length + 3) c, p, f, m] 88 (0, 0)) ∧ w.cell? ⟨bw, o, none⟩ = some (.string (str x)) ∧ w.cell? ⟨bw, o + 1, none⟩ = some (.string (str y)) ∧ w.cell? ⟨bw, o + 2, none⟩ = some (.string (str z)) ∧ rest.length + 3 ≤ c ∧ WordsAt w (fun b => F b ∨ T b) (.slice (some ⟨bw, o, none⟩) (x :: y :: z :: rest).length c) (x :: y :: z :: rest) := by
  obtain ⟨A, c, p, f, m, hh, hw⟩ := h.words
  obtain ⟨A', c', e, h1, _, h3⟩ := id hw
  cases e
  obtain ⟨b0, o0, e0, _, _, c0⟩ := h3 0 (by simp)
  obtain ⟨b1, o1, e1, _, _, c1⟩ := h3 1 (by simp)
  obtain ⟨b2, o2, e2, _, _, c2⟩ := h3 2 (by simp)
  subst e0
  cases e1
  cases e2
  exact ⟨b0, o0, c, p, f, m, hh, by simpa using c0, by simpa using c1, by simpa using c2, by simpa using h1, hw⟩
theorem RdE.flt {w : World} {T F : Nat → Prop} {r tb : Nat} {ws ns fr : List (List UInt8)} (h : RdE w T F r tb ws ns fr) : ∀ b, F b → b < w.heap.size := by
  obtain ⟨Wv, Fv, sm, h⟩ := h
  exact h.flt
theorem RdE.r72 {w : World} {T F : Nat → Prop} {r tb : Nat} {ws ns fr : List (List UInt8)} (h : RdE w T F r tb ws ns fr) : F r ∧ ∀ cs : Array Value, w.heap[r]? ≠ some (.cells cs 72 (0, 0)) := by
  obtain ⟨Wv, Fv, sm, h⟩ := h
  exact ⟨h.fr_, h.no72 (.inl rfl)⟩
/-- The reader's words have been cut. -/
theorem RdE.cut {w : World} {T F : Nat → Prop} {r tb : Nat} {ws ws' ns fr : List (List UInt8)} (h : RdE w T F r tb ws ns fr) {V : Value} (hV : ∀ F', (∀ b, F' b ↔ F b ∨ T b) → WordsAt w F' V ws') : RdE (w.setCell ⟨r, 0, none⟩ V) T F r tb ws' ns fr := by
  obtain ⟨Wv, Fv, sm, h⟩ := h
  exact ⟨_, _, _, h.write (hV _ (fun _ => Iff.rfl))⟩
set_option maxRecDepth 100000 in
set_option maxHeartbeats 8000000 in
theorem three_walk {w : World} {T F : Nat → Prop} {r tb : Nat} {x y z : List UInt8} {rest ns fr f1 f2 f3 : List (List UInt8)} (h : RdE w T F r tb (x :: y :: z :: rest) ns fr) (hx : x.length ≤ 5000) (hy : y.length ≤ 5000) (hzl : z.length ≤ 5000) (hl : ns.length + fr.length + 3 ≤ 100000)
    {a b c : Tm} {ia ib ic : Bool} (e0 : termP ns fr (openW (dashW x).2) = ((a, ia), f1)) (e1 : termP ns f1 y = ((b, ib), f2)) (e2 : termP ns f2 (shutW z) = ((c, ic), f3)) :
    Calls Tryz.prog 61 #[.pointer (some ⟨r, 0, none⟩)] w fun e W => e = .returned (.tuple #[aC evA (dashW x).1 a b c (.slice none 0 0), .bool ((((decide ((dashW x).2.head? = some 40) && decide (z.getLast? = some 41)) && ia) && ib) && ic)]) ∧ Fr w W F ∧ RdX w F W T r tb rest ns f3 := by
  have hB0 := Aside0.mk (((Below.refl w.heap.size w).alloc (Nat.le_refl _) z72').alloc (by simp) (oC evA 72 1 (false, 0) (false, 0) (false, 0) (.slice none 0 0)))
  have hx0 := Aside0.mk (blk_alloc (blk_new w z72') (oC evA 72 1 (false, 0) (false, 0) (false, 0) (.slice none 0 0)))
  have hx1 := blk_new (w.alloc z72') (oC evA 72 1 (false, 0) (false, 0) (false, 0) (.slice none 0 0))
  simp only [World.size_alloc] at hx1
  replace hx1 := Aside0.mk hx1
  have hz0 := Aside0.mk (show ((w.alloc z72').alloc (oC evA 72 1 (false, 0) (false, 0) (false, 0) (.slice none 0 0))).heap.size = w.heap.size + 2 by simp)
  have h0 := Aside0.mk (h.below hB0.out)
  have hflt := Aside0.mk h.flt
  have hA0 := Aside0.mk ((Below.refl w.heap.size w).alloc (Nat.le_refl _) z72')
  have hlen1 : f1.length ≤ fr.length + 1 := by have := termP_len ns fr (openW (dashW x).2); rw [e0] at this; exact this
  have hlen2 : f2.length ≤ f1.length + 1 := by have := termP_len ns f1 y; rw [e1] at this; exact this
  have hr72 := Aside0.mk h.r72
  obtain ⟨bw, o, c0, p, f, m, hh, cx, cy, cz, hcap⟩ := h.three
  have hrb := Aside0.mk hh
  have r0 := (blk_cell ((hA0.out.block r (blk_lt hh)).trans hh) 0).trans (show _ = some (Value.slice (some ⟨bw, o, none⟩) (rest.length + 3) c0) from rfl)
  have rr := Aside0.mk ((blk_cell ((hB0.out.block r (blk_lt hh)).trans hh) 0).trans (show _ = some (Value.slice (some ⟨bw, o, none⟩) (rest.length + 3) c0) from rfl))
  have hbwl := World.block_lt_of_cell? w _ cx
  replace cx := Aside0.mk ((hB0.out.cell (p := ⟨bw, o, none⟩) hbwl).trans cx)
  clear cy cz hh h
  obtain ⟨kd, x1, hd⟩ : ∃ kd x1, dashW x = (kd, x1) := ⟨_, _, rfl⟩
  rw [hd] at e0 ⊢
  replace hd := Aside0.mk hd
  obtain ⟨okF, hokF⟩ : ∃ o, ((((decide (x1.head? = some 40) && decide (z.getLast? = some 41)) && ia) && ib) && ic) = o := ⟨_, rfl⟩
  simp only
  rw [hokF]
  replace hokF := Aside0.mk hokF
  have hn3 : ¬ ((rest.length : Int) + 3) < 3 := by omega
  have hsh := Aside0.mk (fun W => suffix_any z (by omega) 41 W)
  go_enter Tryz.func61, Tryz.ntmps61
  go_upto_region 4 with fail
  clear r0 hA0
  generalize (w.alloc z72').alloc (oC evA 72 1 (false, 0) (false, 0) (false, 0) (.slice none 0 0)) = W1 at hB0 hx0 hx1 hz0 h0 rr cx ⊢
  have r0 := rr.out
  replace cx := cx.out
  clear rr
  generalize hg : w.heap.size = g at hx0 hx1 hz0 hflt ⊢
  replace hg := Aside0.mk hg
  by_cases hneg : x.head? = some 45
  · obtain ⟨rfl, rfl⟩ : kd = 2 ∧ x1 = x.tail := by
      have := hd.out.symm.trans (show dashW x = (2, x.tail) by unfold dashW; rw [if_pos hneg])
      simpa using this
    have hp1 := Aside0.mk (fun W => prefix_any x 45 W)
    rw [if_pos hneg, decide_eq_true hneg] at hp1
    have f0 := blk_frozen hx1.out 0
    have q0 := (blk_cell hx1.out 0).trans (show _ = some (Value.int .i64 1) from rfl)
    go_upto_region 7 with (go_at_call 81; refine (hp1.out _).mono ?_; rintro e w1 ⟨rfl, rfl⟩)
    have hx2 := Aside0.mk (show _ = some (oC evA 72 2 (false, 0) (false, 0) (false, 0) (.slice none 0 0)) from blk_put hx1.out 0 (.int .i64 2) rfl)
    have hB2 := Aside0.mk (hB0.out.setCell (p := ⟨g + 1, 0, none⟩) (by have := hg.out; show w.heap.size ≤ g + 1; omega) (.int .i64 2))
    have hg2 := Aside0.mk (blk_far hx0.out (p := ⟨g + 1, 0, none⟩) (by show g ≠ g + 1; omega) (.int .i64 2))
    have h2 := Aside0.mk (h0.out.set hx1.out (by decide) (by decide) (by decide) 0 (.int .i64 2))
    have hz2 := Aside0.mk (show (W1.setCell ⟨g + 1, 0, none⟩ (.int .i64 2)).heap.size = g + 2 by rw [← hz0.out]; simp [World.setCell])
    clear f0 q0 hB0 hx0 hx1 hz0 h0 r0 cx hp1 hcap
    generalize W1.setCell ⟨g + 1, 0, none⟩ (.int .i64 2) = W2 at hx2 hB2 hg2 h2 hz2 ⊢
    clear W1
    have hsz1 : (x.tail).length ≤ 5000 := by rw [List.length_tail]; omega
    have hp2 := Aside0.mk (fun W => prefix_any (x.tail) 40 W)
    have hul : (openW (x.tail)).length ≤ 5000 := by
      unfold openW
      split
      · rw [List.length_tail]; omega
      · exact hsz1
    have hvl : (shutW z).length ≤ 5000 := by
      unfold shutW
      split
      · rw [List.length_dropLast]; omega
      · exact hzl
    obtain ⟨bw, o, c0, p, f, m, hh, cx, cy, cz, hcap⟩ := h2.out.three
    have r0 := (blk_cell hh 0).trans (show _ = some (Value.slice (some ⟨bw, o, none⟩) (rest.length + 3) c0) from rfl)
    clear hh cx hsz1
    generalize hou : decide ((x.tail).head? = some 40) = ou at hp2
    generalize hos : decide (z.getLast? = some 41) = os at hsh
    have hp2' : Aside0 (∀ W, Calls Tryz.prog 81 #[.string (str (x.tail)), .string ⟨#[40]⟩] W fun e w' => e = .returned (.tuple #[.string (str (openW (x.tail))), .bool ou]) ∧ W = w') := ⟨hp2.out⟩
    have hsh' : Aside0 (∀ W, Calls Tryz.prog 82 #[.string (str z), .string ⟨#[41]⟩] W fun e w' => e = .returned (.tuple #[.string (str (shutW z)), .bool os]) ∧ W = w') := ⟨hsh.out⟩
    clear hp2 hsh
    replace hou := Aside0.mk hou
    replace hos := Aside0.mk hos
    generalize openW (x.tail) = u at hp2' hul e0
    generalize shutW z = v at hsh' hvl e2
    cases ou
    · go_upto_region 11 with (first | (go_at_call 82; refine (hsh'.out _).mono ?_; rintro e w1 ⟨rfl, rfl⟩) | (go_at_call 81; refine (hp2'.out _).mono ?_; rintro e w1 ⟨rfl, rfl⟩))
      have hA3 := (Below.refl W2.heap.size W2).alloc (Nat.le_refl _) (.cells #[.string (str u), .string (str y), .string (str v)] 9)
      have hB3 := Aside0.mk (hB2.out.trans (hA3.mono hB2.out.size))
      have hg3 := Aside0.mk ((hA3.block _ (blk_lt hg2.out)).trans hg2.out)
      have hx3 := Aside0.mk ((hA3.block _ (blk_lt hx2.out)).trans hx2.out)
      have hy3 := blk_new W2 (.cells #[.string (str u), .string (str y), .string (str v)] 9)
      rw [hz2.out] at hy3
      replace hy3 := Aside0.mk hy3
      have h3 := Aside0.mk (h2.out.below hA3)
      clear hA3 hB2 r0 cy cz hp2' hsh' hg2 hx2 h2
      rw [hz2.out]
      generalize W2.alloc (.cells #[.string (str u), .string (str y), .string (str v)] 9) = W3 at hB3 hg3 hx3 hy3 h3 ⊢
      clear hz2
      clear W2
      go_loopw [64, 10] (fun i ok wr => ∃ (q : Nat) (f : List (List UInt8)) (oq : Bool) (bx : Obj) (F' : Nat → Prop), i = .int .i64 q ∧ ok = .bool oq ∧ q ≤ 3 ∧ [fr, f1, f2, f3][q]? = some f ∧ [false, (false && ia), ((false && ia) && ib), (((false && ia) && ib) && ic)][q]? = some oq ∧ [oC evA 72 2 (false, 0) (false, 0) (false, 0) (.slice none 0 0), oC evA 72 2 a (false, 0) (false, 0) (.slice none 0 0), oC evA 72 2 a b (false, 0) (.slice none 0 0), oC evA 72 2 a b c (.slice none 0 0)][q]? = some bx ∧ wr.heap[g + 1]? = some bx ∧ wr.heap[g]? = some z72' ∧ wr.heap[g + 2]? = some (.cells #[.string (str u), .string (str y), .string (str v)] 9) ∧ (∀ b, F' b → F b ∨ g + 3 ≤ b) ∧ RdE wr T F' r tb (x :: y :: z :: rest) ns f ∧ Fr w wr F) (fun i _ _ => 3 - (intOf i).toNat)
      case atStart => exact ⟨0, fr, _, _, F, rfl, rfl, by omega, rfl, rfl, rfl, hx3.out, hg3.out, hy3.out, fun b q => .inl q, h3.out, Fr.of_below hB3.out F⟩
      case round =>
        obtain ⟨q, f, oq, bx, F', rfl, rfl, hq, hf, ho, hb, hx4, hg4, hy4, hF', h4, hfr4⟩ := hrel
        clear hx3 hg3 hy3 h3 hB3
        clear W3
        replace h4 := Aside0.mk h4
        replace hfr4 := Aside0.mk hfr4
        replace hF' := Aside0.mk hF'
        have hFy : Aside0 (¬ F' (g + 2)) := ⟨fun q => (hF'.out _ q).elim (fun q => by have := hflt.out _ q; have := hg.out; omega) (fun q => by omega)⟩
        have hFw : Aside0 (∀ b, F' b → F b ∨ w.heap.size ≤ b) := ⟨fun b q => (hF'.out b q).imp id (fun q => by have := hg.out; omega)⟩
        rcases (show q = 0 ∨ q = 1 ∨ q = 2 ∨ q = 3 by omega) with rfl | rfl | rfl | rfl
        · cases hf
          cases hb
          have ho : false = oq := Option.some.inj ho
          have hcall := term_walk h4.out u (by omega) (by omega)
          rw [e0] at hcall
          replace hcall := Aside0.mk hcall
          have m9 := (blk_cell hy4 0).trans (show _ = some (Value.string (str u)) from rfl)
          replace hx4 := Aside0.mk hx4
          replace hg4 := Aside0.mk hg4
          replace hy4 := Aside0.mk hy4
          replace ho := Aside0.mk ho
          cases oq
          · go_wp2_with (go_at_call 83; refine hcall.out.mono ?_; rintro e w2 ⟨rfl, hfr5, hrx5⟩; have hA5 := Aside0.mk ((Below.refl w2.heap.size w2).alloc (Nat.le_refl _) (.cells #[.bool a.1, .int .i64 a.2] 69)); have hx5 := blk_alloc ((hfr5.k72 (g + 1) _ hx4.out).trans hx4.out) (.cells #[.bool a.1, .int .i64 a.2] 69); have hg5 := Aside0.mk (blk_alloc ((hfr5.k72 g _ hg4.out).trans hg4.out) (.cells #[.bool a.1, .int .i64 a.2] 69)); have hy5 := Aside0.mk (blk_alloc ((hfr5.ch.block (g + 2) (blk_lt hy4.out) hFy.out).trans hy4.out) (.cells #[.bool a.1, .int .i64 a.2] 69)); have hn5 := blk_new w2 (.cells #[.bool a.1, .int .i64 a.2] 69); have n0 := (blk_cell hn5 0).trans (show _ = some (Value.bool a.1) from rfl); have n1 := (blk_cell hn5 1).trans (show _ = some (Value.int .i64 a.2) from rfl); have g1 := blk_frozen hx5 1; have g2 := blk_frozen hx5 2; have p1 := (blk_cell hx5 1).trans (show _ = some (Value.bool false) from rfl); have p2 := (blk_cell hx5 2).trans (show _ = some (Value.int .i64 0) from rfl); replace hx5 := Aside0.mk hx5; replace hfr5 := Aside0.mk hfr5; replace hrx5 := Aside0.mk hrx5; clear hn5)
            go_roundw
            case rel =>
              obtain ⟨F2, hF2, hrd2⟩ := hrx5.out
              refine ⟨1, f1, false && ia, _, F2, by go_num, rfl, by omega, rfl, (by first | exact congrArg (fun t => some (t && ia)) ho.out | rfl), rfl, blk_put (blk_put hx5.out 1 (.bool a.1) rfl) 2 (.int .i64 a.2) rfl, ?_, ?_, fun b q => (hF2 b q).elim (hF'.out b) (fun q => .inr (by have := blk_lt hy4.out; omega)), ((hrd2.below hA5.out).set hx5.out (by decide) (by decide) (by decide) 1 _).set (blk_put hx5.out 1 (.bool a.1) rfl) (by decide) (by decide) (by decide) 2 _, (((hfr4.out.thenX hfr5.out hFw.out).below' hA5.out).set (p := ⟨g + 1, 1, none⟩) (by have := hg.out; show w.heap.size ≤ g + 1; omega) _).set (p := ⟨g + 1, 2, none⟩) (by have := hg.out; show w.heap.size ≤ g + 1; omega) _⟩
              · exact blk_far (blk_far hg5.out (p := ⟨g + 1, 1, none⟩) (by show g ≠ g + 1; omega) _) (p := ⟨g + 1, 2, none⟩) (by show g ≠ g + 1; omega) _
              · exact blk_far (blk_far hy5.out (p := ⟨g + 1, 1, none⟩) (by show g + 2 ≠ g + 1; omega) _) (p := ⟨g + 1, 2, none⟩) (by show g + 2 ≠ g + 1; omega) _
            case measure => simp [intOf]
          · go_wp2_with (go_at_call 83; refine hcall.out.mono ?_; rintro e w2 ⟨rfl, hfr5, hrx5⟩; have hA5 := Aside0.mk ((Below.refl w2.heap.size w2).alloc (Nat.le_refl _) (.cells #[.bool a.1, .int .i64 a.2] 69)); have hx5 := blk_alloc ((hfr5.k72 (g + 1) _ hx4.out).trans hx4.out) (.cells #[.bool a.1, .int .i64 a.2] 69); have hg5 := Aside0.mk (blk_alloc ((hfr5.k72 g _ hg4.out).trans hg4.out) (.cells #[.bool a.1, .int .i64 a.2] 69)); have hy5 := Aside0.mk (blk_alloc ((hfr5.ch.block (g + 2) (blk_lt hy4.out) hFy.out).trans hy4.out) (.cells #[.bool a.1, .int .i64 a.2] 69)); have hn5 := blk_new w2 (.cells #[.bool a.1, .int .i64 a.2] 69); have n0 := (blk_cell hn5 0).trans (show _ = some (Value.bool a.1) from rfl); have n1 := (blk_cell hn5 1).trans (show _ = some (Value.int .i64 a.2) from rfl); have g1 := blk_frozen hx5 1; have g2 := blk_frozen hx5 2; have p1 := (blk_cell hx5 1).trans (show _ = some (Value.bool false) from rfl); have p2 := (blk_cell hx5 2).trans (show _ = some (Value.int .i64 0) from rfl); replace hx5 := Aside0.mk hx5; replace hfr5 := Aside0.mk hfr5; replace hrx5 := Aside0.mk hrx5; clear hn5)
            go_roundw
            case rel =>
              obtain ⟨F2, hF2, hrd2⟩ := hrx5.out
              refine ⟨1, f1, true && ia, _, F2, by go_num, rfl, by omega, rfl, (by first | exact congrArg (fun t => some (t && ia)) ho.out | rfl), rfl, blk_put (blk_put hx5.out 1 (.bool a.1) rfl) 2 (.int .i64 a.2) rfl, ?_, ?_, fun b q => (hF2 b q).elim (hF'.out b) (fun q => .inr (by have := blk_lt hy4.out; omega)), ((hrd2.below hA5.out).set hx5.out (by decide) (by decide) (by decide) 1 _).set (blk_put hx5.out 1 (.bool a.1) rfl) (by decide) (by decide) (by decide) 2 _, (((hfr4.out.thenX hfr5.out hFw.out).below' hA5.out).set (p := ⟨g + 1, 1, none⟩) (by have := hg.out; show w.heap.size ≤ g + 1; omega) _).set (p := ⟨g + 1, 2, none⟩) (by have := hg.out; show w.heap.size ≤ g + 1; omega) _⟩
              · exact blk_far (blk_far hg5.out (p := ⟨g + 1, 1, none⟩) (by show g ≠ g + 1; omega) _) (p := ⟨g + 1, 2, none⟩) (by show g ≠ g + 1; omega) _
              · exact blk_far (blk_far hy5.out (p := ⟨g + 1, 1, none⟩) (by show g + 2 ≠ g + 1; omega) _) (p := ⟨g + 1, 2, none⟩) (by show g + 2 ≠ g + 1; omega) _
            case measure => simp [intOf]
        · cases hf
          cases hb
          have ho : (false && ia) = oq := Option.some.inj ho
          have hcall := term_walk h4.out y (by omega) (by omega)
          rw [e1] at hcall
          replace hcall := Aside0.mk hcall
          have m9 := (blk_cell hy4 1).trans (show _ = some (Value.string (str y)) from rfl)
          replace hx4 := Aside0.mk hx4
          replace hg4 := Aside0.mk hg4
          replace hy4 := Aside0.mk hy4
          replace ho := Aside0.mk ho
          cases oq
          · go_wp2_with (go_at_call 83; refine hcall.out.mono ?_; rintro e w2 ⟨rfl, hfr5, hrx5⟩; have hA5 := Aside0.mk ((Below.refl w2.heap.size w2).alloc (Nat.le_refl _) (.cells #[.bool b.1, .int .i64 b.2] 69)); have hx5 := blk_alloc ((hfr5.k72 (g + 1) _ hx4.out).trans hx4.out) (.cells #[.bool b.1, .int .i64 b.2] 69); have hg5 := Aside0.mk (blk_alloc ((hfr5.k72 g _ hg4.out).trans hg4.out) (.cells #[.bool b.1, .int .i64 b.2] 69)); have hy5 := Aside0.mk (blk_alloc ((hfr5.ch.block (g + 2) (blk_lt hy4.out) hFy.out).trans hy4.out) (.cells #[.bool b.1, .int .i64 b.2] 69)); have hn5 := blk_new w2 (.cells #[.bool b.1, .int .i64 b.2] 69); have n0 := (blk_cell hn5 0).trans (show _ = some (Value.bool b.1) from rfl); have n1 := (blk_cell hn5 1).trans (show _ = some (Value.int .i64 b.2) from rfl); have g1 := blk_frozen hx5 3; have g2 := blk_frozen hx5 4; have p1 := (blk_cell hx5 3).trans (show _ = some (Value.bool false) from rfl); have p2 := (blk_cell hx5 4).trans (show _ = some (Value.int .i64 0) from rfl); replace hx5 := Aside0.mk hx5; replace hfr5 := Aside0.mk hfr5; replace hrx5 := Aside0.mk hrx5; clear hn5)
            go_roundw
            case rel =>
              obtain ⟨F2, hF2, hrd2⟩ := hrx5.out
              refine ⟨2, f2, false && ib, _, F2, by go_num, rfl, by omega, rfl, (by first | exact congrArg (fun t => some (t && ib)) ho.out | rfl), rfl, blk_put (blk_put hx5.out 3 (.bool b.1) rfl) 4 (.int .i64 b.2) rfl, ?_, ?_, fun b q => (hF2 b q).elim (hF'.out b) (fun q => .inr (by have := blk_lt hy4.out; omega)), ((hrd2.below hA5.out).set hx5.out (by decide) (by decide) (by decide) 3 _).set (blk_put hx5.out 3 (.bool b.1) rfl) (by decide) (by decide) (by decide) 4 _, (((hfr4.out.thenX hfr5.out hFw.out).below' hA5.out).set (p := ⟨g + 1, 3, none⟩) (by have := hg.out; show w.heap.size ≤ g + 1; omega) _).set (p := ⟨g + 1, 4, none⟩) (by have := hg.out; show w.heap.size ≤ g + 1; omega) _⟩
              · exact blk_far (blk_far hg5.out (p := ⟨g + 1, 3, none⟩) (by show g ≠ g + 1; omega) _) (p := ⟨g + 1, 4, none⟩) (by show g ≠ g + 1; omega) _
              · exact blk_far (blk_far hy5.out (p := ⟨g + 1, 3, none⟩) (by show g + 2 ≠ g + 1; omega) _) (p := ⟨g + 1, 4, none⟩) (by show g + 2 ≠ g + 1; omega) _
            case measure => simp [intOf]
          · go_wp2_with (go_at_call 83; refine hcall.out.mono ?_; rintro e w2 ⟨rfl, hfr5, hrx5⟩; have hA5 := Aside0.mk ((Below.refl w2.heap.size w2).alloc (Nat.le_refl _) (.cells #[.bool b.1, .int .i64 b.2] 69)); have hx5 := blk_alloc ((hfr5.k72 (g + 1) _ hx4.out).trans hx4.out) (.cells #[.bool b.1, .int .i64 b.2] 69); have hg5 := Aside0.mk (blk_alloc ((hfr5.k72 g _ hg4.out).trans hg4.out) (.cells #[.bool b.1, .int .i64 b.2] 69)); have hy5 := Aside0.mk (blk_alloc ((hfr5.ch.block (g + 2) (blk_lt hy4.out) hFy.out).trans hy4.out) (.cells #[.bool b.1, .int .i64 b.2] 69)); have hn5 := blk_new w2 (.cells #[.bool b.1, .int .i64 b.2] 69); have n0 := (blk_cell hn5 0).trans (show _ = some (Value.bool b.1) from rfl); have n1 := (blk_cell hn5 1).trans (show _ = some (Value.int .i64 b.2) from rfl); have g1 := blk_frozen hx5 3; have g2 := blk_frozen hx5 4; have p1 := (blk_cell hx5 3).trans (show _ = some (Value.bool false) from rfl); have p2 := (blk_cell hx5 4).trans (show _ = some (Value.int .i64 0) from rfl); replace hx5 := Aside0.mk hx5; replace hfr5 := Aside0.mk hfr5; replace hrx5 := Aside0.mk hrx5; clear hn5)
            go_roundw
            case rel =>
              obtain ⟨F2, hF2, hrd2⟩ := hrx5.out
              refine ⟨2, f2, true && ib, _, F2, by go_num, rfl, by omega, rfl, (by first | exact congrArg (fun t => some (t && ib)) ho.out | rfl), rfl, blk_put (blk_put hx5.out 3 (.bool b.1) rfl) 4 (.int .i64 b.2) rfl, ?_, ?_, fun b q => (hF2 b q).elim (hF'.out b) (fun q => .inr (by have := blk_lt hy4.out; omega)), ((hrd2.below hA5.out).set hx5.out (by decide) (by decide) (by decide) 3 _).set (blk_put hx5.out 3 (.bool b.1) rfl) (by decide) (by decide) (by decide) 4 _, (((hfr4.out.thenX hfr5.out hFw.out).below' hA5.out).set (p := ⟨g + 1, 3, none⟩) (by have := hg.out; show w.heap.size ≤ g + 1; omega) _).set (p := ⟨g + 1, 4, none⟩) (by have := hg.out; show w.heap.size ≤ g + 1; omega) _⟩
              · exact blk_far (blk_far hg5.out (p := ⟨g + 1, 3, none⟩) (by show g ≠ g + 1; omega) _) (p := ⟨g + 1, 4, none⟩) (by show g ≠ g + 1; omega) _
              · exact blk_far (blk_far hy5.out (p := ⟨g + 1, 3, none⟩) (by show g + 2 ≠ g + 1; omega) _) (p := ⟨g + 1, 4, none⟩) (by show g + 2 ≠ g + 1; omega) _
            case measure => simp [intOf]
        · cases hf
          cases hb
          have ho : ((false && ia) && ib) = oq := Option.some.inj ho
          have hcall := term_walk h4.out v (by omega) (by omega)
          rw [e2] at hcall
          replace hcall := Aside0.mk hcall
          have m9 := (blk_cell hy4 2).trans (show _ = some (Value.string (str v)) from rfl)
          replace hx4 := Aside0.mk hx4
          replace hg4 := Aside0.mk hg4
          replace hy4 := Aside0.mk hy4
          replace ho := Aside0.mk ho
          cases oq
          · go_wp2_with (go_at_call 83; refine hcall.out.mono ?_; rintro e w2 ⟨rfl, hfr5, hrx5⟩; have hA5 := Aside0.mk ((Below.refl w2.heap.size w2).alloc (Nat.le_refl _) (.cells #[.bool c.1, .int .i64 c.2] 69)); have hx5 := blk_alloc ((hfr5.k72 (g + 1) _ hx4.out).trans hx4.out) (.cells #[.bool c.1, .int .i64 c.2] 69); have hg5 := Aside0.mk (blk_alloc ((hfr5.k72 g _ hg4.out).trans hg4.out) (.cells #[.bool c.1, .int .i64 c.2] 69)); have hy5 := Aside0.mk (blk_alloc ((hfr5.ch.block (g + 2) (blk_lt hy4.out) hFy.out).trans hy4.out) (.cells #[.bool c.1, .int .i64 c.2] 69)); have hn5 := blk_new w2 (.cells #[.bool c.1, .int .i64 c.2] 69); have n0 := (blk_cell hn5 0).trans (show _ = some (Value.bool c.1) from rfl); have n1 := (blk_cell hn5 1).trans (show _ = some (Value.int .i64 c.2) from rfl); have g1 := blk_frozen hx5 5; have g2 := blk_frozen hx5 6; have p1 := (blk_cell hx5 5).trans (show _ = some (Value.bool false) from rfl); have p2 := (blk_cell hx5 6).trans (show _ = some (Value.int .i64 0) from rfl); replace hx5 := Aside0.mk hx5; replace hfr5 := Aside0.mk hfr5; replace hrx5 := Aside0.mk hrx5; clear hn5)
            go_roundw
            case rel =>
              obtain ⟨F2, hF2, hrd2⟩ := hrx5.out
              refine ⟨3, f3, false && ic, _, F2, by go_num, rfl, by omega, rfl, (by first | exact congrArg (fun t => some (t && ic)) ho.out | rfl), rfl, blk_put (blk_put hx5.out 5 (.bool c.1) rfl) 6 (.int .i64 c.2) rfl, ?_, ?_, fun b q => (hF2 b q).elim (hF'.out b) (fun q => .inr (by have := blk_lt hy4.out; omega)), ((hrd2.below hA5.out).set hx5.out (by decide) (by decide) (by decide) 5 _).set (blk_put hx5.out 5 (.bool c.1) rfl) (by decide) (by decide) (by decide) 6 _, (((hfr4.out.thenX hfr5.out hFw.out).below' hA5.out).set (p := ⟨g + 1, 5, none⟩) (by have := hg.out; show w.heap.size ≤ g + 1; omega) _).set (p := ⟨g + 1, 6, none⟩) (by have := hg.out; show w.heap.size ≤ g + 1; omega) _⟩
              · exact blk_far (blk_far hg5.out (p := ⟨g + 1, 5, none⟩) (by show g ≠ g + 1; omega) _) (p := ⟨g + 1, 6, none⟩) (by show g ≠ g + 1; omega) _
              · exact blk_far (blk_far hy5.out (p := ⟨g + 1, 5, none⟩) (by show g + 2 ≠ g + 1; omega) _) (p := ⟨g + 1, 6, none⟩) (by show g + 2 ≠ g + 1; omega) _
            case measure => simp [intOf]
          · go_wp2_with (go_at_call 83; refine hcall.out.mono ?_; rintro e w2 ⟨rfl, hfr5, hrx5⟩; have hA5 := Aside0.mk ((Below.refl w2.heap.size w2).alloc (Nat.le_refl _) (.cells #[.bool c.1, .int .i64 c.2] 69)); have hx5 := blk_alloc ((hfr5.k72 (g + 1) _ hx4.out).trans hx4.out) (.cells #[.bool c.1, .int .i64 c.2] 69); have hg5 := Aside0.mk (blk_alloc ((hfr5.k72 g _ hg4.out).trans hg4.out) (.cells #[.bool c.1, .int .i64 c.2] 69)); have hy5 := Aside0.mk (blk_alloc ((hfr5.ch.block (g + 2) (blk_lt hy4.out) hFy.out).trans hy4.out) (.cells #[.bool c.1, .int .i64 c.2] 69)); have hn5 := blk_new w2 (.cells #[.bool c.1, .int .i64 c.2] 69); have n0 := (blk_cell hn5 0).trans (show _ = some (Value.bool c.1) from rfl); have n1 := (blk_cell hn5 1).trans (show _ = some (Value.int .i64 c.2) from rfl); have g1 := blk_frozen hx5 5; have g2 := blk_frozen hx5 6; have p1 := (blk_cell hx5 5).trans (show _ = some (Value.bool false) from rfl); have p2 := (blk_cell hx5 6).trans (show _ = some (Value.int .i64 0) from rfl); replace hx5 := Aside0.mk hx5; replace hfr5 := Aside0.mk hfr5; replace hrx5 := Aside0.mk hrx5; clear hn5)
            go_roundw
            case rel =>
              obtain ⟨F2, hF2, hrd2⟩ := hrx5.out
              refine ⟨3, f3, true && ic, _, F2, by go_num, rfl, by omega, rfl, (by first | exact congrArg (fun t => some (t && ic)) ho.out | rfl), rfl, blk_put (blk_put hx5.out 5 (.bool c.1) rfl) 6 (.int .i64 c.2) rfl, ?_, ?_, fun b q => (hF2 b q).elim (hF'.out b) (fun q => .inr (by have := blk_lt hy4.out; omega)), ((hrd2.below hA5.out).set hx5.out (by decide) (by decide) (by decide) 5 _).set (blk_put hx5.out 5 (.bool c.1) rfl) (by decide) (by decide) (by decide) 6 _, (((hfr4.out.thenX hfr5.out hFw.out).below' hA5.out).set (p := ⟨g + 1, 5, none⟩) (by have := hg.out; show w.heap.size ≤ g + 1; omega) _).set (p := ⟨g + 1, 6, none⟩) (by have := hg.out; show w.heap.size ≤ g + 1; omega) _⟩
              · exact blk_far (blk_far hg5.out (p := ⟨g + 1, 5, none⟩) (by show g ≠ g + 1; omega) _) (p := ⟨g + 1, 6, none⟩) (by show g ≠ g + 1; omega) _
              · exact blk_far (blk_far hy5.out (p := ⟨g + 1, 5, none⟩) (by show g + 2 ≠ g + 1; omega) _) (p := ⟨g + 1, 6, none⟩) (by show g + 2 ≠ g + 1; omega) _
            case measure => simp [intOf]
        · cases hf
          cases hb
          have ho : (((false && ia) && ib) && ic) = oq := Option.some.inj ho
          obtain ⟨b0, o0, cw, pw, fw, mw, hh4, k1, k2, k3, hcw, hw4⟩ := h4.out.three'
          clear k1 k2 k3
          have hw5 := cut_words (b := b0) (o := o0) (c := cw) hw4 3 (by simp)
          have r0 := (blk_cell hh4 0).trans (show _ = some (Value.slice (some ⟨b0, o0, none⟩) (rest.length + 3) cw) from rfl)
          have fr0 := blk_frozen hh4 0
          have hrg : r ≠ g + 1 := ne_type hh4 hx4 (by decide)
          have hrg0 : r ≠ g := ne_type hh4 hg4 (by decide)
          replace hw5 := Aside0.mk hw5
          replace hh4 := Aside0.mk hh4
          replace hx4 := Aside0.mk hx4
          replace hg4 := Aside0.mk hg4
          replace ho := Aside0.mk ho
          clear hw4 hy4 hcw
          go_upto_region 17 with fail
          have hx5 := Aside0.mk (blk_far hx4.out (p := ⟨r, 0, none⟩) (Ne.symm hrg) (.slice (if cw = 3 then some ⟨b0, o0, none⟩ else some ⟨b0, o0 + 3, none⟩) rest.length (cw - 3)))
          have hg5 := Aside0.mk (blk_far hg4.out (p := ⟨r, 0, none⟩) (Ne.symm hrg0) (.slice (if cw = 3 then some ⟨b0, o0, none⟩ else some ⟨b0, o0 + 3, none⟩) rest.length (cw - 3)))
          have hrd5 := Aside0.mk (h4.out.cut (ws' := rest) (V := (.slice (if cw = 3 then some ⟨b0, o0, none⟩ else some ⟨b0, o0 + 3, none⟩) rest.length (cw - 3))) (fun F2 hF2 => hw5.out.mono (fun b _ q => (hF2 b).1 q)))
          have hfr5 := Aside0.mk (hfr4.out.write (p := ⟨r, 0, none⟩) (fun _ => hr72.out.1) hr72.out.2 (.slice (if cw = 3 then some ⟨b0, o0, none⟩ else some ⟨b0, o0 + 3, none⟩) rest.length (cw - 3)))
          clear r0 fr0 hh4 hw5
          generalize wr.setCell ⟨r, 0, none⟩ (.slice (if cw = 3 then some ⟨b0, o0, none⟩ else some ⟨b0, o0 + 3, none⟩) rest.length (cw - 3)) = W5 at hx5 hg5 hrd5 hfr5 ⊢
          generalize Value.slice (if cw = 3 then some ⟨b0, o0, none⟩ else some ⟨b0, o0 + 3, none⟩) rest.length (cw - 3) = V5
          clear h4 hfr4 hx4 hg4
          clear wr
          obtain ⟨d0, d1, d2, d3, d4, d5, d6, d7⟩ := box8 hx5.out
          have f0 := blk_frozen hg5.out 0
          have f1 := blk_frozen hg5.out 1
          have f2 := blk_frozen hg5.out 2
          have f3 := blk_frozen hg5.out 3
          have f4 := blk_frozen hg5.out 4
          have f5 := blk_frozen hg5.out 5
          have f6 := blk_frozen hg5.out 6
          have f7 := blk_frozen hg5.out 7
          have q0 := (blk_cell hg5.out 0).trans (show _ = some (Value.int .i64 0) from rfl)
          have q1 := (blk_cell hg5.out 1).trans (show _ = some (Value.bool false) from rfl)
          have q2 := (blk_cell hg5.out 2).trans (show _ = some (Value.int .i64 0) from rfl)
          have q3 := (blk_cell hg5.out 3).trans (show _ = some (Value.bool false) from rfl)
          have q4 := (blk_cell hg5.out 4).trans (show _ = some (Value.int .i64 0) from rfl)
          have q5 := (blk_cell hg5.out 5).trans (show _ = some (Value.bool false) from rfl)
          have q6 := (blk_cell hg5.out 6).trans (show _ = some (Value.int .i64 0) from rfl)
          have q7 := (blk_cell hg5.out 7).trans (show _ = some (Value.slice none 0 0) from rfl)
          go_wp2
          have hx8 := (blk_put (blk_put (blk_put (blk_put (blk_put (blk_put (blk_put (blk_put hg5.out 0 (.int .i64 2) rfl) 1 (.bool a.1) rfl) 2 (.int .i64 a.2) rfl) 3 (.bool b.1) rfl) 4 (.int .i64 b.2) rfl) 5 (.bool c.1) rfl) 6 (.int .i64 c.2) rfl) 7 (.slice none 0 0) rfl)
          replace hx8 := (show _ = some (oC evA 72 2 a b c (.slice none 0 0)) from hx8)
          have z0 := (blk_cell hx8 0).trans (show _ = some (Value.int .i64 2) from rfl)
          have z1 := (blk_cell hx8 1).trans (show _ = some (Value.bool a.1) from rfl)
          have z2 := (blk_cell hx8 2).trans (show _ = some (Value.int .i64 a.2) from rfl)
          have z3 := (blk_cell hx8 3).trans (show _ = some (Value.bool b.1) from rfl)
          have z4 := (blk_cell hx8 4).trans (show _ = some (Value.int .i64 b.2) from rfl)
          have z5 := (blk_cell hx8 5).trans (show _ = some (Value.bool c.1) from rfl)
          have z6 := (blk_cell hx8 6).trans (show _ = some (Value.int .i64 c.2) from rfl)
          have z7 := (blk_cell hx8 7).trans (show _ = some (Value.slice none 0 0) from rfl)
          refine bodyPost_ret (v := .tuple #[aC evA 2 a b c (.slice none 0 0), .bool oq]) (by simp [results, Tryz.results61, go_sem, z0, z1, z2, z3, z4, z5, z6, z7]) rfl ⟨?_, ((((((((hfr5.out.set (p := ⟨g, 0, none⟩) (Nat.le_of_eq hg.out) _).set (p := ⟨g, 1, none⟩) (Nat.le_of_eq hg.out) _).set (p := ⟨g, 2, none⟩) (Nat.le_of_eq hg.out) _).set (p := ⟨g, 3, none⟩) (Nat.le_of_eq hg.out) _).set (p := ⟨g, 4, none⟩) (Nat.le_of_eq hg.out) _).set (p := ⟨g, 5, none⟩) (Nat.le_of_eq hg.out) _).set (p := ⟨g, 6, none⟩) (Nat.le_of_eq hg.out) _).set (p := ⟨g, 7, none⟩) (Nat.le_of_eq hg.out) _), F', hFw.out, ((((((((hrd5.out.set hg5.out (by decide) (by decide) (by decide) 0 (.int .i64 2)).set (blk_put hg5.out 0 (.int .i64 2) rfl) (by decide) (by decide) (by decide) 1 (.bool a.1)).set (blk_put (blk_put hg5.out 0 (.int .i64 2) rfl) 1 (.bool a.1) rfl) (by decide) (by decide) (by decide) 2 (.int .i64 a.2)).set (blk_put (blk_put (blk_put hg5.out 0 (.int .i64 2) rfl) 1 (.bool a.1) rfl) 2 (.int .i64 a.2) rfl) (by decide) (by decide) (by decide) 3 (.bool b.1)).set (blk_put (blk_put (blk_put (blk_put hg5.out 0 (.int .i64 2) rfl) 1 (.bool a.1) rfl) 2 (.int .i64 a.2) rfl) 3 (.bool b.1) rfl) (by decide) (by decide) (by decide) 4 (.int .i64 b.2)).set (blk_put (blk_put (blk_put (blk_put (blk_put hg5.out 0 (.int .i64 2) rfl) 1 (.bool a.1) rfl) 2 (.int .i64 a.2) rfl) 3 (.bool b.1) rfl) 4 (.int .i64 b.2) rfl) (by decide) (by decide) (by decide) 5 (.bool c.1)).set (blk_put (blk_put (blk_put (blk_put (blk_put (blk_put hg5.out 0 (.int .i64 2) rfl) 1 (.bool a.1) rfl) 2 (.int .i64 a.2) rfl) 3 (.bool b.1) rfl) 4 (.int .i64 b.2) rfl) 5 (.bool c.1) rfl) (by decide) (by decide) (by decide) 6 (.int .i64 c.2)).set (blk_put (blk_put (blk_put (blk_put (blk_put (blk_put (blk_put hg5.out 0 (.int .i64 2) rfl) 1 (.bool a.1) rfl) 2 (.int .i64 a.2) rfl) 3 (.bool b.1) rfl) 4 (.int .i64 b.2) rfl) 5 (.bool c.1) rfl) 6 (.int .i64 c.2) rfl) (by decide) (by decide) (by decide) 7 (.slice none 0 0))⟩
          have e : oq = okF := by
            rw [← hokF.out, hou.out, hos.out]
            exact ho.out.symm
          rw [e]
    · go_upto_region 11 with (first | (go_at_call 82; refine (hsh'.out _).mono ?_; rintro e w1 ⟨rfl, rfl⟩) | (go_at_call 81; refine (hp2'.out _).mono ?_; rintro e w1 ⟨rfl, rfl⟩))
      have hA3 := (Below.refl W2.heap.size W2).alloc (Nat.le_refl _) (.cells #[.string (str u), .string (str y), .string (str v)] 9)
      have hB3 := Aside0.mk (hB2.out.trans (hA3.mono hB2.out.size))
      have hg3 := Aside0.mk ((hA3.block _ (blk_lt hg2.out)).trans hg2.out)
      have hx3 := Aside0.mk ((hA3.block _ (blk_lt hx2.out)).trans hx2.out)
      have hy3 := blk_new W2 (.cells #[.string (str u), .string (str y), .string (str v)] 9)
      rw [hz2.out] at hy3
      replace hy3 := Aside0.mk hy3
      have h3 := Aside0.mk (h2.out.below hA3)
      clear hA3 hB2 r0 cy cz hp2' hsh' hg2 hx2 h2
      rw [hz2.out]
      generalize W2.alloc (.cells #[.string (str u), .string (str y), .string (str v)] 9) = W3 at hB3 hg3 hx3 hy3 h3 ⊢
      clear hz2
      clear W2
      go_loopw [64, 10] (fun i ok wr => ∃ (q : Nat) (f : List (List UInt8)) (oq : Bool) (bx : Obj) (F' : Nat → Prop), i = .int .i64 q ∧ ok = .bool oq ∧ q ≤ 3 ∧ [fr, f1, f2, f3][q]? = some f ∧ [os, (os && ia), ((os && ia) && ib), (((os && ia) && ib) && ic)][q]? = some oq ∧ [oC evA 72 2 (false, 0) (false, 0) (false, 0) (.slice none 0 0), oC evA 72 2 a (false, 0) (false, 0) (.slice none 0 0), oC evA 72 2 a b (false, 0) (.slice none 0 0), oC evA 72 2 a b c (.slice none 0 0)][q]? = some bx ∧ wr.heap[g + 1]? = some bx ∧ wr.heap[g]? = some z72' ∧ wr.heap[g + 2]? = some (.cells #[.string (str u), .string (str y), .string (str v)] 9) ∧ (∀ b, F' b → F b ∨ g + 3 ≤ b) ∧ RdE wr T F' r tb (x :: y :: z :: rest) ns f ∧ Fr w wr F) (fun i _ _ => 3 - (intOf i).toNat)
      case atStart => exact ⟨0, fr, _, _, F, rfl, rfl, by omega, rfl, rfl, rfl, hx3.out, hg3.out, hy3.out, fun b q => .inl q, h3.out, Fr.of_below hB3.out F⟩
      case round =>
        obtain ⟨q, f, oq, bx, F', rfl, rfl, hq, hf, ho, hb, hx4, hg4, hy4, hF', h4, hfr4⟩ := hrel
        clear hx3 hg3 hy3 h3 hB3
        clear W3
        replace h4 := Aside0.mk h4
        replace hfr4 := Aside0.mk hfr4
        replace hF' := Aside0.mk hF'
        have hFy : Aside0 (¬ F' (g + 2)) := ⟨fun q => (hF'.out _ q).elim (fun q => by have := hflt.out _ q; have := hg.out; omega) (fun q => by omega)⟩
        have hFw : Aside0 (∀ b, F' b → F b ∨ w.heap.size ≤ b) := ⟨fun b q => (hF'.out b q).imp id (fun q => by have := hg.out; omega)⟩
        rcases (show q = 0 ∨ q = 1 ∨ q = 2 ∨ q = 3 by omega) with rfl | rfl | rfl | rfl
        · cases hf
          cases hb
          have ho : os = oq := Option.some.inj ho
          have hcall := term_walk h4.out u (by omega) (by omega)
          rw [e0] at hcall
          replace hcall := Aside0.mk hcall
          have m9 := (blk_cell hy4 0).trans (show _ = some (Value.string (str u)) from rfl)
          replace hx4 := Aside0.mk hx4
          replace hg4 := Aside0.mk hg4
          replace hy4 := Aside0.mk hy4
          replace ho := Aside0.mk ho
          cases oq
          · go_wp2_with (go_at_call 83; refine hcall.out.mono ?_; rintro e w2 ⟨rfl, hfr5, hrx5⟩; have hA5 := Aside0.mk ((Below.refl w2.heap.size w2).alloc (Nat.le_refl _) (.cells #[.bool a.1, .int .i64 a.2] 69)); have hx5 := blk_alloc ((hfr5.k72 (g + 1) _ hx4.out).trans hx4.out) (.cells #[.bool a.1, .int .i64 a.2] 69); have hg5 := Aside0.mk (blk_alloc ((hfr5.k72 g _ hg4.out).trans hg4.out) (.cells #[.bool a.1, .int .i64 a.2] 69)); have hy5 := Aside0.mk (blk_alloc ((hfr5.ch.block (g + 2) (blk_lt hy4.out) hFy.out).trans hy4.out) (.cells #[.bool a.1, .int .i64 a.2] 69)); have hn5 := blk_new w2 (.cells #[.bool a.1, .int .i64 a.2] 69); have n0 := (blk_cell hn5 0).trans (show _ = some (Value.bool a.1) from rfl); have n1 := (blk_cell hn5 1).trans (show _ = some (Value.int .i64 a.2) from rfl); have g1 := blk_frozen hx5 1; have g2 := blk_frozen hx5 2; have p1 := (blk_cell hx5 1).trans (show _ = some (Value.bool false) from rfl); have p2 := (blk_cell hx5 2).trans (show _ = some (Value.int .i64 0) from rfl); replace hx5 := Aside0.mk hx5; replace hfr5 := Aside0.mk hfr5; replace hrx5 := Aside0.mk hrx5; clear hn5)
            go_roundw
            case rel =>
              obtain ⟨F2, hF2, hrd2⟩ := hrx5.out
              refine ⟨1, f1, false && ia, _, F2, by go_num, rfl, by omega, rfl, (by first | exact congrArg (fun t => some (t && ia)) ho.out | rfl), rfl, blk_put (blk_put hx5.out 1 (.bool a.1) rfl) 2 (.int .i64 a.2) rfl, ?_, ?_, fun b q => (hF2 b q).elim (hF'.out b) (fun q => .inr (by have := blk_lt hy4.out; omega)), ((hrd2.below hA5.out).set hx5.out (by decide) (by decide) (by decide) 1 _).set (blk_put hx5.out 1 (.bool a.1) rfl) (by decide) (by decide) (by decide) 2 _, (((hfr4.out.thenX hfr5.out hFw.out).below' hA5.out).set (p := ⟨g + 1, 1, none⟩) (by have := hg.out; show w.heap.size ≤ g + 1; omega) _).set (p := ⟨g + 1, 2, none⟩) (by have := hg.out; show w.heap.size ≤ g + 1; omega) _⟩
              · exact blk_far (blk_far hg5.out (p := ⟨g + 1, 1, none⟩) (by show g ≠ g + 1; omega) _) (p := ⟨g + 1, 2, none⟩) (by show g ≠ g + 1; omega) _
              · exact blk_far (blk_far hy5.out (p := ⟨g + 1, 1, none⟩) (by show g + 2 ≠ g + 1; omega) _) (p := ⟨g + 1, 2, none⟩) (by show g + 2 ≠ g + 1; omega) _
            case measure => simp [intOf]
          · go_wp2_with (go_at_call 83; refine hcall.out.mono ?_; rintro e w2 ⟨rfl, hfr5, hrx5⟩; have hA5 := Aside0.mk ((Below.refl w2.heap.size w2).alloc (Nat.le_refl _) (.cells #[.bool a.1, .int .i64 a.2] 69)); have hx5 := blk_alloc ((hfr5.k72 (g + 1) _ hx4.out).trans hx4.out) (.cells #[.bool a.1, .int .i64 a.2] 69); have hg5 := Aside0.mk (blk_alloc ((hfr5.k72 g _ hg4.out).trans hg4.out) (.cells #[.bool a.1, .int .i64 a.2] 69)); have hy5 := Aside0.mk (blk_alloc ((hfr5.ch.block (g + 2) (blk_lt hy4.out) hFy.out).trans hy4.out) (.cells #[.bool a.1, .int .i64 a.2] 69)); have hn5 := blk_new w2 (.cells #[.bool a.1, .int .i64 a.2] 69); have n0 := (blk_cell hn5 0).trans (show _ = some (Value.bool a.1) from rfl); have n1 := (blk_cell hn5 1).trans (show _ = some (Value.int .i64 a.2) from rfl); have g1 := blk_frozen hx5 1; have g2 := blk_frozen hx5 2; have p1 := (blk_cell hx5 1).trans (show _ = some (Value.bool false) from rfl); have p2 := (blk_cell hx5 2).trans (show _ = some (Value.int .i64 0) from rfl); replace hx5 := Aside0.mk hx5; replace hfr5 := Aside0.mk hfr5; replace hrx5 := Aside0.mk hrx5; clear hn5)
            go_roundw
            case rel =>
              obtain ⟨F2, hF2, hrd2⟩ := hrx5.out
              refine ⟨1, f1, true && ia, _, F2, by go_num, rfl, by omega, rfl, (by first | exact congrArg (fun t => some (t && ia)) ho.out | rfl), rfl, blk_put (blk_put hx5.out 1 (.bool a.1) rfl) 2 (.int .i64 a.2) rfl, ?_, ?_, fun b q => (hF2 b q).elim (hF'.out b) (fun q => .inr (by have := blk_lt hy4.out; omega)), ((hrd2.below hA5.out).set hx5.out (by decide) (by decide) (by decide) 1 _).set (blk_put hx5.out 1 (.bool a.1) rfl) (by decide) (by decide) (by decide) 2 _, (((hfr4.out.thenX hfr5.out hFw.out).below' hA5.out).set (p := ⟨g + 1, 1, none⟩) (by have := hg.out; show w.heap.size ≤ g + 1; omega) _).set (p := ⟨g + 1, 2, none⟩) (by have := hg.out; show w.heap.size ≤ g + 1; omega) _⟩
              · exact blk_far (blk_far hg5.out (p := ⟨g + 1, 1, none⟩) (by show g ≠ g + 1; omega) _) (p := ⟨g + 1, 2, none⟩) (by show g ≠ g + 1; omega) _
              · exact blk_far (blk_far hy5.out (p := ⟨g + 1, 1, none⟩) (by show g + 2 ≠ g + 1; omega) _) (p := ⟨g + 1, 2, none⟩) (by show g + 2 ≠ g + 1; omega) _
            case measure => simp [intOf]
        · cases hf
          cases hb
          have ho : (os && ia) = oq := Option.some.inj ho
          have hcall := term_walk h4.out y (by omega) (by omega)
          rw [e1] at hcall
          replace hcall := Aside0.mk hcall
          have m9 := (blk_cell hy4 1).trans (show _ = some (Value.string (str y)) from rfl)
          replace hx4 := Aside0.mk hx4
          replace hg4 := Aside0.mk hg4
          replace hy4 := Aside0.mk hy4
          replace ho := Aside0.mk ho
          cases oq
          · go_wp2_with (go_at_call 83; refine hcall.out.mono ?_; rintro e w2 ⟨rfl, hfr5, hrx5⟩; have hA5 := Aside0.mk ((Below.refl w2.heap.size w2).alloc (Nat.le_refl _) (.cells #[.bool b.1, .int .i64 b.2] 69)); have hx5 := blk_alloc ((hfr5.k72 (g + 1) _ hx4.out).trans hx4.out) (.cells #[.bool b.1, .int .i64 b.2] 69); have hg5 := Aside0.mk (blk_alloc ((hfr5.k72 g _ hg4.out).trans hg4.out) (.cells #[.bool b.1, .int .i64 b.2] 69)); have hy5 := Aside0.mk (blk_alloc ((hfr5.ch.block (g + 2) (blk_lt hy4.out) hFy.out).trans hy4.out) (.cells #[.bool b.1, .int .i64 b.2] 69)); have hn5 := blk_new w2 (.cells #[.bool b.1, .int .i64 b.2] 69); have n0 := (blk_cell hn5 0).trans (show _ = some (Value.bool b.1) from rfl); have n1 := (blk_cell hn5 1).trans (show _ = some (Value.int .i64 b.2) from rfl); have g1 := blk_frozen hx5 3; have g2 := blk_frozen hx5 4; have p1 := (blk_cell hx5 3).trans (show _ = some (Value.bool false) from rfl); have p2 := (blk_cell hx5 4).trans (show _ = some (Value.int .i64 0) from rfl); replace hx5 := Aside0.mk hx5; replace hfr5 := Aside0.mk hfr5; replace hrx5 := Aside0.mk hrx5; clear hn5)
            go_roundw
            case rel =>
              obtain ⟨F2, hF2, hrd2⟩ := hrx5.out
              refine ⟨2, f2, false && ib, _, F2, by go_num, rfl, by omega, rfl, (by first | exact congrArg (fun t => some (t && ib)) ho.out | rfl), rfl, blk_put (blk_put hx5.out 3 (.bool b.1) rfl) 4 (.int .i64 b.2) rfl, ?_, ?_, fun b q => (hF2 b q).elim (hF'.out b) (fun q => .inr (by have := blk_lt hy4.out; omega)), ((hrd2.below hA5.out).set hx5.out (by decide) (by decide) (by decide) 3 _).set (blk_put hx5.out 3 (.bool b.1) rfl) (by decide) (by decide) (by decide) 4 _, (((hfr4.out.thenX hfr5.out hFw.out).below' hA5.out).set (p := ⟨g + 1, 3, none⟩) (by have := hg.out; show w.heap.size ≤ g + 1; omega) _).set (p := ⟨g + 1, 4, none⟩) (by have := hg.out; show w.heap.size ≤ g + 1; omega) _⟩
              · exact blk_far (blk_far hg5.out (p := ⟨g + 1, 3, none⟩) (by show g ≠ g + 1; omega) _) (p := ⟨g + 1, 4, none⟩) (by show g ≠ g + 1; omega) _
              · exact blk_far (blk_far hy5.out (p := ⟨g + 1, 3, none⟩) (by show g + 2 ≠ g + 1; omega) _) (p := ⟨g + 1, 4, none⟩) (by show g + 2 ≠ g + 1; omega) _
            case measure => simp [intOf]
          · go_wp2_with (go_at_call 83; refine hcall.out.mono ?_; rintro e w2 ⟨rfl, hfr5, hrx5⟩; have hA5 := Aside0.mk ((Below.refl w2.heap.size w2).alloc (Nat.le_refl _) (.cells #[.bool b.1, .int .i64 b.2] 69)); have hx5 := blk_alloc ((hfr5.k72 (g + 1) _ hx4.out).trans hx4.out) (.cells #[.bool b.1, .int .i64 b.2] 69); have hg5 := Aside0.mk (blk_alloc ((hfr5.k72 g _ hg4.out).trans hg4.out) (.cells #[.bool b.1, .int .i64 b.2] 69)); have hy5 := Aside0.mk (blk_alloc ((hfr5.ch.block (g + 2) (blk_lt hy4.out) hFy.out).trans hy4.out) (.cells #[.bool b.1, .int .i64 b.2] 69)); have hn5 := blk_new w2 (.cells #[.bool b.1, .int .i64 b.2] 69); have n0 := (blk_cell hn5 0).trans (show _ = some (Value.bool b.1) from rfl); have n1 := (blk_cell hn5 1).trans (show _ = some (Value.int .i64 b.2) from rfl); have g1 := blk_frozen hx5 3; have g2 := blk_frozen hx5 4; have p1 := (blk_cell hx5 3).trans (show _ = some (Value.bool false) from rfl); have p2 := (blk_cell hx5 4).trans (show _ = some (Value.int .i64 0) from rfl); replace hx5 := Aside0.mk hx5; replace hfr5 := Aside0.mk hfr5; replace hrx5 := Aside0.mk hrx5; clear hn5)
            go_roundw
            case rel =>
              obtain ⟨F2, hF2, hrd2⟩ := hrx5.out
              refine ⟨2, f2, true && ib, _, F2, by go_num, rfl, by omega, rfl, (by first | exact congrArg (fun t => some (t && ib)) ho.out | rfl), rfl, blk_put (blk_put hx5.out 3 (.bool b.1) rfl) 4 (.int .i64 b.2) rfl, ?_, ?_, fun b q => (hF2 b q).elim (hF'.out b) (fun q => .inr (by have := blk_lt hy4.out; omega)), ((hrd2.below hA5.out).set hx5.out (by decide) (by decide) (by decide) 3 _).set (blk_put hx5.out 3 (.bool b.1) rfl) (by decide) (by decide) (by decide) 4 _, (((hfr4.out.thenX hfr5.out hFw.out).below' hA5.out).set (p := ⟨g + 1, 3, none⟩) (by have := hg.out; show w.heap.size ≤ g + 1; omega) _).set (p := ⟨g + 1, 4, none⟩) (by have := hg.out; show w.heap.size ≤ g + 1; omega) _⟩
              · exact blk_far (blk_far hg5.out (p := ⟨g + 1, 3, none⟩) (by show g ≠ g + 1; omega) _) (p := ⟨g + 1, 4, none⟩) (by show g ≠ g + 1; omega) _
              · exact blk_far (blk_far hy5.out (p := ⟨g + 1, 3, none⟩) (by show g + 2 ≠ g + 1; omega) _) (p := ⟨g + 1, 4, none⟩) (by show g + 2 ≠ g + 1; omega) _
            case measure => simp [intOf]
        · cases hf
          cases hb
          have ho : ((os && ia) && ib) = oq := Option.some.inj ho
          have hcall := term_walk h4.out v (by omega) (by omega)
          rw [e2] at hcall
          replace hcall := Aside0.mk hcall
          have m9 := (blk_cell hy4 2).trans (show _ = some (Value.string (str v)) from rfl)
          replace hx4 := Aside0.mk hx4
          replace hg4 := Aside0.mk hg4
          replace hy4 := Aside0.mk hy4
          replace ho := Aside0.mk ho
          cases oq
          · go_wp2_with (go_at_call 83; refine hcall.out.mono ?_; rintro e w2 ⟨rfl, hfr5, hrx5⟩; have hA5 := Aside0.mk ((Below.refl w2.heap.size w2).alloc (Nat.le_refl _) (.cells #[.bool c.1, .int .i64 c.2] 69)); have hx5 := blk_alloc ((hfr5.k72 (g + 1) _ hx4.out).trans hx4.out) (.cells #[.bool c.1, .int .i64 c.2] 69); have hg5 := Aside0.mk (blk_alloc ((hfr5.k72 g _ hg4.out).trans hg4.out) (.cells #[.bool c.1, .int .i64 c.2] 69)); have hy5 := Aside0.mk (blk_alloc ((hfr5.ch.block (g + 2) (blk_lt hy4.out) hFy.out).trans hy4.out) (.cells #[.bool c.1, .int .i64 c.2] 69)); have hn5 := blk_new w2 (.cells #[.bool c.1, .int .i64 c.2] 69); have n0 := (blk_cell hn5 0).trans (show _ = some (Value.bool c.1) from rfl); have n1 := (blk_cell hn5 1).trans (show _ = some (Value.int .i64 c.2) from rfl); have g1 := blk_frozen hx5 5; have g2 := blk_frozen hx5 6; have p1 := (blk_cell hx5 5).trans (show _ = some (Value.bool false) from rfl); have p2 := (blk_cell hx5 6).trans (show _ = some (Value.int .i64 0) from rfl); replace hx5 := Aside0.mk hx5; replace hfr5 := Aside0.mk hfr5; replace hrx5 := Aside0.mk hrx5; clear hn5)
            go_roundw
            case rel =>
              obtain ⟨F2, hF2, hrd2⟩ := hrx5.out
              refine ⟨3, f3, false && ic, _, F2, by go_num, rfl, by omega, rfl, (by first | exact congrArg (fun t => some (t && ic)) ho.out | rfl), rfl, blk_put (blk_put hx5.out 5 (.bool c.1) rfl) 6 (.int .i64 c.2) rfl, ?_, ?_, fun b q => (hF2 b q).elim (hF'.out b) (fun q => .inr (by have := blk_lt hy4.out; omega)), ((hrd2.below hA5.out).set hx5.out (by decide) (by decide) (by decide) 5 _).set (blk_put hx5.out 5 (.bool c.1) rfl) (by decide) (by decide) (by decide) 6 _, (((hfr4.out.thenX hfr5.out hFw.out).below' hA5.out).set (p := ⟨g + 1, 5, none⟩) (by have := hg.out; show w.heap.size ≤ g + 1; omega) _).set (p := ⟨g + 1, 6, none⟩) (by have := hg.out; show w.heap.size ≤ g + 1; omega) _⟩
              · exact blk_far (blk_far hg5.out (p := ⟨g + 1, 5, none⟩) (by show g ≠ g + 1; omega) _) (p := ⟨g + 1, 6, none⟩) (by show g ≠ g + 1; omega) _
              · exact blk_far (blk_far hy5.out (p := ⟨g + 1, 5, none⟩) (by show g + 2 ≠ g + 1; omega) _) (p := ⟨g + 1, 6, none⟩) (by show g + 2 ≠ g + 1; omega) _
            case measure => simp [intOf]
          · go_wp2_with (go_at_call 83; refine hcall.out.mono ?_; rintro e w2 ⟨rfl, hfr5, hrx5⟩; have hA5 := Aside0.mk ((Below.refl w2.heap.size w2).alloc (Nat.le_refl _) (.cells #[.bool c.1, .int .i64 c.2] 69)); have hx5 := blk_alloc ((hfr5.k72 (g + 1) _ hx4.out).trans hx4.out) (.cells #[.bool c.1, .int .i64 c.2] 69); have hg5 := Aside0.mk (blk_alloc ((hfr5.k72 g _ hg4.out).trans hg4.out) (.cells #[.bool c.1, .int .i64 c.2] 69)); have hy5 := Aside0.mk (blk_alloc ((hfr5.ch.block (g + 2) (blk_lt hy4.out) hFy.out).trans hy4.out) (.cells #[.bool c.1, .int .i64 c.2] 69)); have hn5 := blk_new w2 (.cells #[.bool c.1, .int .i64 c.2] 69); have n0 := (blk_cell hn5 0).trans (show _ = some (Value.bool c.1) from rfl); have n1 := (blk_cell hn5 1).trans (show _ = some (Value.int .i64 c.2) from rfl); have g1 := blk_frozen hx5 5; have g2 := blk_frozen hx5 6; have p1 := (blk_cell hx5 5).trans (show _ = some (Value.bool false) from rfl); have p2 := (blk_cell hx5 6).trans (show _ = some (Value.int .i64 0) from rfl); replace hx5 := Aside0.mk hx5; replace hfr5 := Aside0.mk hfr5; replace hrx5 := Aside0.mk hrx5; clear hn5)
            go_roundw
            case rel =>
              obtain ⟨F2, hF2, hrd2⟩ := hrx5.out
              refine ⟨3, f3, true && ic, _, F2, by go_num, rfl, by omega, rfl, (by first | exact congrArg (fun t => some (t && ic)) ho.out | rfl), rfl, blk_put (blk_put hx5.out 5 (.bool c.1) rfl) 6 (.int .i64 c.2) rfl, ?_, ?_, fun b q => (hF2 b q).elim (hF'.out b) (fun q => .inr (by have := blk_lt hy4.out; omega)), ((hrd2.below hA5.out).set hx5.out (by decide) (by decide) (by decide) 5 _).set (blk_put hx5.out 5 (.bool c.1) rfl) (by decide) (by decide) (by decide) 6 _, (((hfr4.out.thenX hfr5.out hFw.out).below' hA5.out).set (p := ⟨g + 1, 5, none⟩) (by have := hg.out; show w.heap.size ≤ g + 1; omega) _).set (p := ⟨g + 1, 6, none⟩) (by have := hg.out; show w.heap.size ≤ g + 1; omega) _⟩
              · exact blk_far (blk_far hg5.out (p := ⟨g + 1, 5, none⟩) (by show g ≠ g + 1; omega) _) (p := ⟨g + 1, 6, none⟩) (by show g ≠ g + 1; omega) _
              · exact blk_far (blk_far hy5.out (p := ⟨g + 1, 5, none⟩) (by show g + 2 ≠ g + 1; omega) _) (p := ⟨g + 1, 6, none⟩) (by show g + 2 ≠ g + 1; omega) _
            case measure => simp [intOf]
        · cases hf
          cases hb
          have ho : (((os && ia) && ib) && ic) = oq := Option.some.inj ho
          obtain ⟨b0, o0, cw, pw, fw, mw, hh4, k1, k2, k3, hcw, hw4⟩ := h4.out.three'
          clear k1 k2 k3
          have hw5 := cut_words (b := b0) (o := o0) (c := cw) hw4 3 (by simp)
          have r0 := (blk_cell hh4 0).trans (show _ = some (Value.slice (some ⟨b0, o0, none⟩) (rest.length + 3) cw) from rfl)
          have fr0 := blk_frozen hh4 0
          have hrg : r ≠ g + 1 := ne_type hh4 hx4 (by decide)
          have hrg0 : r ≠ g := ne_type hh4 hg4 (by decide)
          replace hw5 := Aside0.mk hw5
          replace hh4 := Aside0.mk hh4
          replace hx4 := Aside0.mk hx4
          replace hg4 := Aside0.mk hg4
          replace ho := Aside0.mk ho
          clear hw4 hy4 hcw
          go_upto_region 17 with fail
          have hx5 := Aside0.mk (blk_far hx4.out (p := ⟨r, 0, none⟩) (Ne.symm hrg) (.slice (if cw = 3 then some ⟨b0, o0, none⟩ else some ⟨b0, o0 + 3, none⟩) rest.length (cw - 3)))
          have hg5 := Aside0.mk (blk_far hg4.out (p := ⟨r, 0, none⟩) (Ne.symm hrg0) (.slice (if cw = 3 then some ⟨b0, o0, none⟩ else some ⟨b0, o0 + 3, none⟩) rest.length (cw - 3)))
          have hrd5 := Aside0.mk (h4.out.cut (ws' := rest) (V := (.slice (if cw = 3 then some ⟨b0, o0, none⟩ else some ⟨b0, o0 + 3, none⟩) rest.length (cw - 3))) (fun F2 hF2 => hw5.out.mono (fun b _ q => (hF2 b).1 q)))
          have hfr5 := Aside0.mk (hfr4.out.write (p := ⟨r, 0, none⟩) (fun _ => hr72.out.1) hr72.out.2 (.slice (if cw = 3 then some ⟨b0, o0, none⟩ else some ⟨b0, o0 + 3, none⟩) rest.length (cw - 3)))
          clear r0 fr0 hh4 hw5
          generalize wr.setCell ⟨r, 0, none⟩ (.slice (if cw = 3 then some ⟨b0, o0, none⟩ else some ⟨b0, o0 + 3, none⟩) rest.length (cw - 3)) = W5 at hx5 hg5 hrd5 hfr5 ⊢
          generalize Value.slice (if cw = 3 then some ⟨b0, o0, none⟩ else some ⟨b0, o0 + 3, none⟩) rest.length (cw - 3) = V5
          clear h4 hfr4 hx4 hg4
          clear wr
          obtain ⟨d0, d1, d2, d3, d4, d5, d6, d7⟩ := box8 hx5.out
          have f0 := blk_frozen hg5.out 0
          have f1 := blk_frozen hg5.out 1
          have f2 := blk_frozen hg5.out 2
          have f3 := blk_frozen hg5.out 3
          have f4 := blk_frozen hg5.out 4
          have f5 := blk_frozen hg5.out 5
          have f6 := blk_frozen hg5.out 6
          have f7 := blk_frozen hg5.out 7
          have q0 := (blk_cell hg5.out 0).trans (show _ = some (Value.int .i64 0) from rfl)
          have q1 := (blk_cell hg5.out 1).trans (show _ = some (Value.bool false) from rfl)
          have q2 := (blk_cell hg5.out 2).trans (show _ = some (Value.int .i64 0) from rfl)
          have q3 := (blk_cell hg5.out 3).trans (show _ = some (Value.bool false) from rfl)
          have q4 := (blk_cell hg5.out 4).trans (show _ = some (Value.int .i64 0) from rfl)
          have q5 := (blk_cell hg5.out 5).trans (show _ = some (Value.bool false) from rfl)
          have q6 := (blk_cell hg5.out 6).trans (show _ = some (Value.int .i64 0) from rfl)
          have q7 := (blk_cell hg5.out 7).trans (show _ = some (Value.slice none 0 0) from rfl)
          go_wp2
          have hx8 := (blk_put (blk_put (blk_put (blk_put (blk_put (blk_put (blk_put (blk_put hg5.out 0 (.int .i64 2) rfl) 1 (.bool a.1) rfl) 2 (.int .i64 a.2) rfl) 3 (.bool b.1) rfl) 4 (.int .i64 b.2) rfl) 5 (.bool c.1) rfl) 6 (.int .i64 c.2) rfl) 7 (.slice none 0 0) rfl)
          replace hx8 := (show _ = some (oC evA 72 2 a b c (.slice none 0 0)) from hx8)
          have z0 := (blk_cell hx8 0).trans (show _ = some (Value.int .i64 2) from rfl)
          have z1 := (blk_cell hx8 1).trans (show _ = some (Value.bool a.1) from rfl)
          have z2 := (blk_cell hx8 2).trans (show _ = some (Value.int .i64 a.2) from rfl)
          have z3 := (blk_cell hx8 3).trans (show _ = some (Value.bool b.1) from rfl)
          have z4 := (blk_cell hx8 4).trans (show _ = some (Value.int .i64 b.2) from rfl)
          have z5 := (blk_cell hx8 5).trans (show _ = some (Value.bool c.1) from rfl)
          have z6 := (blk_cell hx8 6).trans (show _ = some (Value.int .i64 c.2) from rfl)
          have z7 := (blk_cell hx8 7).trans (show _ = some (Value.slice none 0 0) from rfl)
          refine bodyPost_ret (v := .tuple #[aC evA 2 a b c (.slice none 0 0), .bool oq]) (by simp [results, Tryz.results61, go_sem, z0, z1, z2, z3, z4, z5, z6, z7]) rfl ⟨?_, ((((((((hfr5.out.set (p := ⟨g, 0, none⟩) (Nat.le_of_eq hg.out) _).set (p := ⟨g, 1, none⟩) (Nat.le_of_eq hg.out) _).set (p := ⟨g, 2, none⟩) (Nat.le_of_eq hg.out) _).set (p := ⟨g, 3, none⟩) (Nat.le_of_eq hg.out) _).set (p := ⟨g, 4, none⟩) (Nat.le_of_eq hg.out) _).set (p := ⟨g, 5, none⟩) (Nat.le_of_eq hg.out) _).set (p := ⟨g, 6, none⟩) (Nat.le_of_eq hg.out) _).set (p := ⟨g, 7, none⟩) (Nat.le_of_eq hg.out) _), F', hFw.out, ((((((((hrd5.out.set hg5.out (by decide) (by decide) (by decide) 0 (.int .i64 2)).set (blk_put hg5.out 0 (.int .i64 2) rfl) (by decide) (by decide) (by decide) 1 (.bool a.1)).set (blk_put (blk_put hg5.out 0 (.int .i64 2) rfl) 1 (.bool a.1) rfl) (by decide) (by decide) (by decide) 2 (.int .i64 a.2)).set (blk_put (blk_put (blk_put hg5.out 0 (.int .i64 2) rfl) 1 (.bool a.1) rfl) 2 (.int .i64 a.2) rfl) (by decide) (by decide) (by decide) 3 (.bool b.1)).set (blk_put (blk_put (blk_put (blk_put hg5.out 0 (.int .i64 2) rfl) 1 (.bool a.1) rfl) 2 (.int .i64 a.2) rfl) 3 (.bool b.1) rfl) (by decide) (by decide) (by decide) 4 (.int .i64 b.2)).set (blk_put (blk_put (blk_put (blk_put (blk_put hg5.out 0 (.int .i64 2) rfl) 1 (.bool a.1) rfl) 2 (.int .i64 a.2) rfl) 3 (.bool b.1) rfl) 4 (.int .i64 b.2) rfl) (by decide) (by decide) (by decide) 5 (.bool c.1)).set (blk_put (blk_put (blk_put (blk_put (blk_put (blk_put hg5.out 0 (.int .i64 2) rfl) 1 (.bool a.1) rfl) 2 (.int .i64 a.2) rfl) 3 (.bool b.1) rfl) 4 (.int .i64 b.2) rfl) 5 (.bool c.1) rfl) (by decide) (by decide) (by decide) 6 (.int .i64 c.2)).set (blk_put (blk_put (blk_put (blk_put (blk_put (blk_put (blk_put hg5.out 0 (.int .i64 2) rfl) 1 (.bool a.1) rfl) 2 (.int .i64 a.2) rfl) 3 (.bool b.1) rfl) 4 (.int .i64 b.2) rfl) 5 (.bool c.1) rfl) 6 (.int .i64 c.2) rfl) (by decide) (by decide) (by decide) 7 (.slice none 0 0))⟩
          have e : oq = okF := by
            rw [← hokF.out, hou.out, hos.out]
            exact ho.out.symm
          rw [e]
  · obtain ⟨rfl, rfl⟩ : kd = 1 ∧ x = x1 := by
      have := hd.out.symm.trans (show dashW x = (1, x) by unfold dashW; rw [if_neg hneg])
      cases this
      exact ⟨rfl, rfl⟩
    have hp1 := Aside0.mk (fun W => prefix_any x 45 W)
    rw [if_neg hneg, decide_eq_false hneg] at hp1
    go_upto_region 7 with (go_at_call 81; refine (hp1.out _).mono ?_; rintro e w1 ⟨rfl, rfl⟩)
    have hx2 := hx1
    have hB2 := hB0
    have hg2 := hx0
    have h2 := h0
    have hz2 := hz0
    clear hB0 hx0 hx1 hz0 h0 r0 cx hp1 hcap
    generalize W1 = W2 at hx2 hB2 hg2 h2 hz2 ⊢
    have hsz1 : (x).length ≤ 5000 := hx
    have hp2 := Aside0.mk (fun W => prefix_any (x) 40 W)
    have hul : (openW (x)).length ≤ 5000 := by
      unfold openW
      split
      · rw [List.length_tail]; omega
      · exact hsz1
    have hvl : (shutW z).length ≤ 5000 := by
      unfold shutW
      split
      · rw [List.length_dropLast]; omega
      · exact hzl
    obtain ⟨bw, o, c0, p, f, m, hh, cx, cy, cz, hcap⟩ := h2.out.three
    have r0 := (blk_cell hh 0).trans (show _ = some (Value.slice (some ⟨bw, o, none⟩) (rest.length + 3) c0) from rfl)
    clear hh cx hsz1
    generalize hou : decide ((x).head? = some 40) = ou at hp2
    generalize hos : decide (z.getLast? = some 41) = os at hsh
    have hp2' : Aside0 (∀ W, Calls Tryz.prog 81 #[.string (str (x)), .string ⟨#[40]⟩] W fun e w' => e = .returned (.tuple #[.string (str (openW (x))), .bool ou]) ∧ W = w') := ⟨hp2.out⟩
    have hsh' : Aside0 (∀ W, Calls Tryz.prog 82 #[.string (str z), .string ⟨#[41]⟩] W fun e w' => e = .returned (.tuple #[.string (str (shutW z)), .bool os]) ∧ W = w') := ⟨hsh.out⟩
    clear hp2 hsh
    replace hou := Aside0.mk hou
    replace hos := Aside0.mk hos
    generalize openW (x) = u at hp2' hul e0
    generalize shutW z = v at hsh' hvl e2
    cases ou
    · go_upto_region 11 with (first | (go_at_call 82; refine (hsh'.out _).mono ?_; rintro e w1 ⟨rfl, rfl⟩) | (go_at_call 81; refine (hp2'.out _).mono ?_; rintro e w1 ⟨rfl, rfl⟩))
      have hA3 := (Below.refl W2.heap.size W2).alloc (Nat.le_refl _) (.cells #[.string (str u), .string (str y), .string (str v)] 9)
      have hB3 := Aside0.mk (hB2.out.trans (hA3.mono hB2.out.size))
      have hg3 := Aside0.mk ((hA3.block _ (blk_lt hg2.out)).trans hg2.out)
      have hx3 := Aside0.mk ((hA3.block _ (blk_lt hx2.out)).trans hx2.out)
      have hy3 := blk_new W2 (.cells #[.string (str u), .string (str y), .string (str v)] 9)
      rw [hz2.out] at hy3
      replace hy3 := Aside0.mk hy3
      have h3 := Aside0.mk (h2.out.below hA3)
      clear hA3 hB2 r0 cy cz hp2' hsh' hg2 hx2 h2
      rw [hz2.out]
      generalize W2.alloc (.cells #[.string (str u), .string (str y), .string (str v)] 9) = W3 at hB3 hg3 hx3 hy3 h3 ⊢
      clear hz2
      clear W2
      go_loopw [64, 10] (fun i ok wr => ∃ (q : Nat) (f : List (List UInt8)) (oq : Bool) (bx : Obj) (F' : Nat → Prop), i = .int .i64 q ∧ ok = .bool oq ∧ q ≤ 3 ∧ [fr, f1, f2, f3][q]? = some f ∧ [false, (false && ia), ((false && ia) && ib), (((false && ia) && ib) && ic)][q]? = some oq ∧ [oC evA 72 1 (false, 0) (false, 0) (false, 0) (.slice none 0 0), oC evA 72 1 a (false, 0) (false, 0) (.slice none 0 0), oC evA 72 1 a b (false, 0) (.slice none 0 0), oC evA 72 1 a b c (.slice none 0 0)][q]? = some bx ∧ wr.heap[g + 1]? = some bx ∧ wr.heap[g]? = some z72' ∧ wr.heap[g + 2]? = some (.cells #[.string (str u), .string (str y), .string (str v)] 9) ∧ (∀ b, F' b → F b ∨ g + 3 ≤ b) ∧ RdE wr T F' r tb (x :: y :: z :: rest) ns f ∧ Fr w wr F) (fun i _ _ => 3 - (intOf i).toNat)
      case atStart => exact ⟨0, fr, _, _, F, rfl, rfl, by omega, rfl, rfl, rfl, hx3.out, hg3.out, hy3.out, fun b q => .inl q, h3.out, Fr.of_below hB3.out F⟩
      case round =>
        obtain ⟨q, f, oq, bx, F', rfl, rfl, hq, hf, ho, hb, hx4, hg4, hy4, hF', h4, hfr4⟩ := hrel
        clear hx3 hg3 hy3 h3 hB3
        clear W3
        replace h4 := Aside0.mk h4
        replace hfr4 := Aside0.mk hfr4
        replace hF' := Aside0.mk hF'
        have hFy : Aside0 (¬ F' (g + 2)) := ⟨fun q => (hF'.out _ q).elim (fun q => by have := hflt.out _ q; have := hg.out; omega) (fun q => by omega)⟩
        have hFw : Aside0 (∀ b, F' b → F b ∨ w.heap.size ≤ b) := ⟨fun b q => (hF'.out b q).imp id (fun q => by have := hg.out; omega)⟩
        rcases (show q = 0 ∨ q = 1 ∨ q = 2 ∨ q = 3 by omega) with rfl | rfl | rfl | rfl
        · cases hf
          cases hb
          have ho : false = oq := Option.some.inj ho
          have hcall := term_walk h4.out u (by omega) (by omega)
          rw [e0] at hcall
          replace hcall := Aside0.mk hcall
          have m9 := (blk_cell hy4 0).trans (show _ = some (Value.string (str u)) from rfl)
          replace hx4 := Aside0.mk hx4
          replace hg4 := Aside0.mk hg4
          replace hy4 := Aside0.mk hy4
          replace ho := Aside0.mk ho
          cases oq
          · go_wp2_with (go_at_call 83; refine hcall.out.mono ?_; rintro e w2 ⟨rfl, hfr5, hrx5⟩; have hA5 := Aside0.mk ((Below.refl w2.heap.size w2).alloc (Nat.le_refl _) (.cells #[.bool a.1, .int .i64 a.2] 69)); have hx5 := blk_alloc ((hfr5.k72 (g + 1) _ hx4.out).trans hx4.out) (.cells #[.bool a.1, .int .i64 a.2] 69); have hg5 := Aside0.mk (blk_alloc ((hfr5.k72 g _ hg4.out).trans hg4.out) (.cells #[.bool a.1, .int .i64 a.2] 69)); have hy5 := Aside0.mk (blk_alloc ((hfr5.ch.block (g + 2) (blk_lt hy4.out) hFy.out).trans hy4.out) (.cells #[.bool a.1, .int .i64 a.2] 69)); have hn5 := blk_new w2 (.cells #[.bool a.1, .int .i64 a.2] 69); have n0 := (blk_cell hn5 0).trans (show _ = some (Value.bool a.1) from rfl); have n1 := (blk_cell hn5 1).trans (show _ = some (Value.int .i64 a.2) from rfl); have g1 := blk_frozen hx5 1; have g2 := blk_frozen hx5 2; have p1 := (blk_cell hx5 1).trans (show _ = some (Value.bool false) from rfl); have p2 := (blk_cell hx5 2).trans (show _ = some (Value.int .i64 0) from rfl); replace hx5 := Aside0.mk hx5; replace hfr5 := Aside0.mk hfr5; replace hrx5 := Aside0.mk hrx5; clear hn5)
            go_roundw
            case rel =>
              obtain ⟨F2, hF2, hrd2⟩ := hrx5.out
              refine ⟨1, f1, false && ia, _, F2, by go_num, rfl, by omega, rfl, (by first | exact congrArg (fun t => some (t && ia)) ho.out | rfl), rfl, blk_put (blk_put hx5.out 1 (.bool a.1) rfl) 2 (.int .i64 a.2) rfl, ?_, ?_, fun b q => (hF2 b q).elim (hF'.out b) (fun q => .inr (by have := blk_lt hy4.out; omega)), ((hrd2.below hA5.out).set hx5.out (by decide) (by decide) (by decide) 1 _).set (blk_put hx5.out 1 (.bool a.1) rfl) (by decide) (by decide) (by decide) 2 _, (((hfr4.out.thenX hfr5.out hFw.out).below' hA5.out).set (p := ⟨g + 1, 1, none⟩) (by have := hg.out; show w.heap.size ≤ g + 1; omega) _).set (p := ⟨g + 1, 2, none⟩) (by have := hg.out; show w.heap.size ≤ g + 1; omega) _⟩
              · exact blk_far (blk_far hg5.out (p := ⟨g + 1, 1, none⟩) (by show g ≠ g + 1; omega) _) (p := ⟨g + 1, 2, none⟩) (by show g ≠ g + 1; omega) _
              · exact blk_far (blk_far hy5.out (p := ⟨g + 1, 1, none⟩) (by show g + 2 ≠ g + 1; omega) _) (p := ⟨g + 1, 2, none⟩) (by show g + 2 ≠ g + 1; omega) _
            case measure => simp [intOf]
          · go_wp2_with (go_at_call 83; refine hcall.out.mono ?_; rintro e w2 ⟨rfl, hfr5, hrx5⟩; have hA5 := Aside0.mk ((Below.refl w2.heap.size w2).alloc (Nat.le_refl _) (.cells #[.bool a.1, .int .i64 a.2] 69)); have hx5 := blk_alloc ((hfr5.k72 (g + 1) _ hx4.out).trans hx4.out) (.cells #[.bool a.1, .int .i64 a.2] 69); have hg5 := Aside0.mk (blk_alloc ((hfr5.k72 g _ hg4.out).trans hg4.out) (.cells #[.bool a.1, .int .i64 a.2] 69)); have hy5 := Aside0.mk (blk_alloc ((hfr5.ch.block (g + 2) (blk_lt hy4.out) hFy.out).trans hy4.out) (.cells #[.bool a.1, .int .i64 a.2] 69)); have hn5 := blk_new w2 (.cells #[.bool a.1, .int .i64 a.2] 69); have n0 := (blk_cell hn5 0).trans (show _ = some (Value.bool a.1) from rfl); have n1 := (blk_cell hn5 1).trans (show _ = some (Value.int .i64 a.2) from rfl); have g1 := blk_frozen hx5 1; have g2 := blk_frozen hx5 2; have p1 := (blk_cell hx5 1).trans (show _ = some (Value.bool false) from rfl); have p2 := (blk_cell hx5 2).trans (show _ = some (Value.int .i64 0) from rfl); replace hx5 := Aside0.mk hx5; replace hfr5 := Aside0.mk hfr5; replace hrx5 := Aside0.mk hrx5; clear hn5)
            go_roundw
            case rel =>
              obtain ⟨F2, hF2, hrd2⟩ := hrx5.out
              refine ⟨1, f1, true && ia, _, F2, by go_num, rfl, by omega, rfl, (by first | exact congrArg (fun t => some (t && ia)) ho.out | rfl), rfl, blk_put (blk_put hx5.out 1 (.bool a.1) rfl) 2 (.int .i64 a.2) rfl, ?_, ?_, fun b q => (hF2 b q).elim (hF'.out b) (fun q => .inr (by have := blk_lt hy4.out; omega)), ((hrd2.below hA5.out).set hx5.out (by decide) (by decide) (by decide) 1 _).set (blk_put hx5.out 1 (.bool a.1) rfl) (by decide) (by decide) (by decide) 2 _, (((hfr4.out.thenX hfr5.out hFw.out).below' hA5.out).set (p := ⟨g + 1, 1, none⟩) (by have := hg.out; show w.heap.size ≤ g + 1; omega) _).set (p := ⟨g + 1, 2, none⟩) (by have := hg.out; show w.heap.size ≤ g + 1; omega) _⟩
              · exact blk_far (blk_far hg5.out (p := ⟨g + 1, 1, none⟩) (by show g ≠ g + 1; omega) _) (p := ⟨g + 1, 2, none⟩) (by show g ≠ g + 1; omega) _
              · exact blk_far (blk_far hy5.out (p := ⟨g + 1, 1, none⟩) (by show g + 2 ≠ g + 1; omega) _) (p := ⟨g + 1, 2, none⟩) (by show g + 2 ≠ g + 1; omega) _
            case measure => simp [intOf]
        · cases hf
          cases hb
          have ho : (false && ia) = oq := Option.some.inj ho
          have hcall := term_walk h4.out y (by omega) (by omega)
          rw [e1] at hcall
          replace hcall := Aside0.mk hcall
          have m9 := (blk_cell hy4 1).trans (show _ = some (Value.string (str y)) from rfl)
          replace hx4 := Aside0.mk hx4
          replace hg4 := Aside0.mk hg4
          replace hy4 := Aside0.mk hy4
          replace ho := Aside0.mk ho
          cases oq
          · go_wp2_with (go_at_call 83; refine hcall.out.mono ?_; rintro e w2 ⟨rfl, hfr5, hrx5⟩; have hA5 := Aside0.mk ((Below.refl w2.heap.size w2).alloc (Nat.le_refl _) (.cells #[.bool b.1, .int .i64 b.2] 69)); have hx5 := blk_alloc ((hfr5.k72 (g + 1) _ hx4.out).trans hx4.out) (.cells #[.bool b.1, .int .i64 b.2] 69); have hg5 := Aside0.mk (blk_alloc ((hfr5.k72 g _ hg4.out).trans hg4.out) (.cells #[.bool b.1, .int .i64 b.2] 69)); have hy5 := Aside0.mk (blk_alloc ((hfr5.ch.block (g + 2) (blk_lt hy4.out) hFy.out).trans hy4.out) (.cells #[.bool b.1, .int .i64 b.2] 69)); have hn5 := blk_new w2 (.cells #[.bool b.1, .int .i64 b.2] 69); have n0 := (blk_cell hn5 0).trans (show _ = some (Value.bool b.1) from rfl); have n1 := (blk_cell hn5 1).trans (show _ = some (Value.int .i64 b.2) from rfl); have g1 := blk_frozen hx5 3; have g2 := blk_frozen hx5 4; have p1 := (blk_cell hx5 3).trans (show _ = some (Value.bool false) from rfl); have p2 := (blk_cell hx5 4).trans (show _ = some (Value.int .i64 0) from rfl); replace hx5 := Aside0.mk hx5; replace hfr5 := Aside0.mk hfr5; replace hrx5 := Aside0.mk hrx5; clear hn5)
            go_roundw
            case rel =>
              obtain ⟨F2, hF2, hrd2⟩ := hrx5.out
              refine ⟨2, f2, false && ib, _, F2, by go_num, rfl, by omega, rfl, (by first | exact congrArg (fun t => some (t && ib)) ho.out | rfl), rfl, blk_put (blk_put hx5.out 3 (.bool b.1) rfl) 4 (.int .i64 b.2) rfl, ?_, ?_, fun b q => (hF2 b q).elim (hF'.out b) (fun q => .inr (by have := blk_lt hy4.out; omega)), ((hrd2.below hA5.out).set hx5.out (by decide) (by decide) (by decide) 3 _).set (blk_put hx5.out 3 (.bool b.1) rfl) (by decide) (by decide) (by decide) 4 _, (((hfr4.out.thenX hfr5.out hFw.out).below' hA5.out).set (p := ⟨g + 1, 3, none⟩) (by have := hg.out; show w.heap.size ≤ g + 1; omega) _).set (p := ⟨g + 1, 4, none⟩) (by have := hg.out; show w.heap.size ≤ g + 1; omega) _⟩
              · exact blk_far (blk_far hg5.out (p := ⟨g + 1, 3, none⟩) (by show g ≠ g + 1; omega) _) (p := ⟨g + 1, 4, none⟩) (by show g ≠ g + 1; omega) _
              · exact blk_far (blk_far hy5.out (p := ⟨g + 1, 3, none⟩) (by show g + 2 ≠ g + 1; omega) _) (p := ⟨g + 1, 4, none⟩) (by show g + 2 ≠ g + 1; omega) _
            case measure => simp [intOf]
          · go_wp2_with (go_at_call 83; refine hcall.out.mono ?_; rintro e w2 ⟨rfl, hfr5, hrx5⟩; have hA5 := Aside0.mk ((Below.refl w2.heap.size w2).alloc (Nat.le_refl _) (.cells #[.bool b.1, .int .i64 b.2] 69)); have hx5 := blk_alloc ((hfr5.k72 (g + 1) _ hx4.out).trans hx4.out) (.cells #[.bool b.1, .int .i64 b.2] 69); have hg5 := Aside0.mk (blk_alloc ((hfr5.k72 g _ hg4.out).trans hg4.out) (.cells #[.bool b.1, .int .i64 b.2] 69)); have hy5 := Aside0.mk (blk_alloc ((hfr5.ch.block (g + 2) (blk_lt hy4.out) hFy.out).trans hy4.out) (.cells #[.bool b.1, .int .i64 b.2] 69)); have hn5 := blk_new w2 (.cells #[.bool b.1, .int .i64 b.2] 69); have n0 := (blk_cell hn5 0).trans (show _ = some (Value.bool b.1) from rfl); have n1 := (blk_cell hn5 1).trans (show _ = some (Value.int .i64 b.2) from rfl); have g1 := blk_frozen hx5 3; have g2 := blk_frozen hx5 4; have p1 := (blk_cell hx5 3).trans (show _ = some (Value.bool false) from rfl); have p2 := (blk_cell hx5 4).trans (show _ = some (Value.int .i64 0) from rfl); replace hx5 := Aside0.mk hx5; replace hfr5 := Aside0.mk hfr5; replace hrx5 := Aside0.mk hrx5; clear hn5)
            go_roundw
            case rel =>
              obtain ⟨F2, hF2, hrd2⟩ := hrx5.out
              refine ⟨2, f2, true && ib, _, F2, by go_num, rfl, by omega, rfl, (by first | exact congrArg (fun t => some (t && ib)) ho.out | rfl), rfl, blk_put (blk_put hx5.out 3 (.bool b.1) rfl) 4 (.int .i64 b.2) rfl, ?_, ?_, fun b q => (hF2 b q).elim (hF'.out b) (fun q => .inr (by have := blk_lt hy4.out; omega)), ((hrd2.below hA5.out).set hx5.out (by decide) (by decide) (by decide) 3 _).set (blk_put hx5.out 3 (.bool b.1) rfl) (by decide) (by decide) (by decide) 4 _, (((hfr4.out.thenX hfr5.out hFw.out).below' hA5.out).set (p := ⟨g + 1, 3, none⟩) (by have := hg.out; show w.heap.size ≤ g + 1; omega) _).set (p := ⟨g + 1, 4, none⟩) (by have := hg.out; show w.heap.size ≤ g + 1; omega) _⟩
              · exact blk_far (blk_far hg5.out (p := ⟨g + 1, 3, none⟩) (by show g ≠ g + 1; omega) _) (p := ⟨g + 1, 4, none⟩) (by show g ≠ g + 1; omega) _
              · exact blk_far (blk_far hy5.out (p := ⟨g + 1, 3, none⟩) (by show g + 2 ≠ g + 1; omega) _) (p := ⟨g + 1, 4, none⟩) (by show g + 2 ≠ g + 1; omega) _
            case measure => simp [intOf]
        · cases hf
          cases hb
          have ho : ((false && ia) && ib) = oq := Option.some.inj ho
          have hcall := term_walk h4.out v (by omega) (by omega)
          rw [e2] at hcall
          replace hcall := Aside0.mk hcall
          have m9 := (blk_cell hy4 2).trans (show _ = some (Value.string (str v)) from rfl)
          replace hx4 := Aside0.mk hx4
          replace hg4 := Aside0.mk hg4
          replace hy4 := Aside0.mk hy4
          replace ho := Aside0.mk ho
          cases oq
          · go_wp2_with (go_at_call 83; refine hcall.out.mono ?_; rintro e w2 ⟨rfl, hfr5, hrx5⟩; have hA5 := Aside0.mk ((Below.refl w2.heap.size w2).alloc (Nat.le_refl _) (.cells #[.bool c.1, .int .i64 c.2] 69)); have hx5 := blk_alloc ((hfr5.k72 (g + 1) _ hx4.out).trans hx4.out) (.cells #[.bool c.1, .int .i64 c.2] 69); have hg5 := Aside0.mk (blk_alloc ((hfr5.k72 g _ hg4.out).trans hg4.out) (.cells #[.bool c.1, .int .i64 c.2] 69)); have hy5 := Aside0.mk (blk_alloc ((hfr5.ch.block (g + 2) (blk_lt hy4.out) hFy.out).trans hy4.out) (.cells #[.bool c.1, .int .i64 c.2] 69)); have hn5 := blk_new w2 (.cells #[.bool c.1, .int .i64 c.2] 69); have n0 := (blk_cell hn5 0).trans (show _ = some (Value.bool c.1) from rfl); have n1 := (blk_cell hn5 1).trans (show _ = some (Value.int .i64 c.2) from rfl); have g1 := blk_frozen hx5 5; have g2 := blk_frozen hx5 6; have p1 := (blk_cell hx5 5).trans (show _ = some (Value.bool false) from rfl); have p2 := (blk_cell hx5 6).trans (show _ = some (Value.int .i64 0) from rfl); replace hx5 := Aside0.mk hx5; replace hfr5 := Aside0.mk hfr5; replace hrx5 := Aside0.mk hrx5; clear hn5)
            go_roundw
            case rel =>
              obtain ⟨F2, hF2, hrd2⟩ := hrx5.out
              refine ⟨3, f3, false && ic, _, F2, by go_num, rfl, by omega, rfl, (by first | exact congrArg (fun t => some (t && ic)) ho.out | rfl), rfl, blk_put (blk_put hx5.out 5 (.bool c.1) rfl) 6 (.int .i64 c.2) rfl, ?_, ?_, fun b q => (hF2 b q).elim (hF'.out b) (fun q => .inr (by have := blk_lt hy4.out; omega)), ((hrd2.below hA5.out).set hx5.out (by decide) (by decide) (by decide) 5 _).set (blk_put hx5.out 5 (.bool c.1) rfl) (by decide) (by decide) (by decide) 6 _, (((hfr4.out.thenX hfr5.out hFw.out).below' hA5.out).set (p := ⟨g + 1, 5, none⟩) (by have := hg.out; show w.heap.size ≤ g + 1; omega) _).set (p := ⟨g + 1, 6, none⟩) (by have := hg.out; show w.heap.size ≤ g + 1; omega) _⟩
              · exact blk_far (blk_far hg5.out (p := ⟨g + 1, 5, none⟩) (by show g ≠ g + 1; omega) _) (p := ⟨g + 1, 6, none⟩) (by show g ≠ g + 1; omega) _
              · exact blk_far (blk_far hy5.out (p := ⟨g + 1, 5, none⟩) (by show g + 2 ≠ g + 1; omega) _) (p := ⟨g + 1, 6, none⟩) (by show g + 2 ≠ g + 1; omega) _
            case measure => simp [intOf]
          · go_wp2_with (go_at_call 83; refine hcall.out.mono ?_; rintro e w2 ⟨rfl, hfr5, hrx5⟩; have hA5 := Aside0.mk ((Below.refl w2.heap.size w2).alloc (Nat.le_refl _) (.cells #[.bool c.1, .int .i64 c.2] 69)); have hx5 := blk_alloc ((hfr5.k72 (g + 1) _ hx4.out).trans hx4.out) (.cells #[.bool c.1, .int .i64 c.2] 69); have hg5 := Aside0.mk (blk_alloc ((hfr5.k72 g _ hg4.out).trans hg4.out) (.cells #[.bool c.1, .int .i64 c.2] 69)); have hy5 := Aside0.mk (blk_alloc ((hfr5.ch.block (g + 2) (blk_lt hy4.out) hFy.out).trans hy4.out) (.cells #[.bool c.1, .int .i64 c.2] 69)); have hn5 := blk_new w2 (.cells #[.bool c.1, .int .i64 c.2] 69); have n0 := (blk_cell hn5 0).trans (show _ = some (Value.bool c.1) from rfl); have n1 := (blk_cell hn5 1).trans (show _ = some (Value.int .i64 c.2) from rfl); have g1 := blk_frozen hx5 5; have g2 := blk_frozen hx5 6; have p1 := (blk_cell hx5 5).trans (show _ = some (Value.bool false) from rfl); have p2 := (blk_cell hx5 6).trans (show _ = some (Value.int .i64 0) from rfl); replace hx5 := Aside0.mk hx5; replace hfr5 := Aside0.mk hfr5; replace hrx5 := Aside0.mk hrx5; clear hn5)
            go_roundw
            case rel =>
              obtain ⟨F2, hF2, hrd2⟩ := hrx5.out
              refine ⟨3, f3, true && ic, _, F2, by go_num, rfl, by omega, rfl, (by first | exact congrArg (fun t => some (t && ic)) ho.out | rfl), rfl, blk_put (blk_put hx5.out 5 (.bool c.1) rfl) 6 (.int .i64 c.2) rfl, ?_, ?_, fun b q => (hF2 b q).elim (hF'.out b) (fun q => .inr (by have := blk_lt hy4.out; omega)), ((hrd2.below hA5.out).set hx5.out (by decide) (by decide) (by decide) 5 _).set (blk_put hx5.out 5 (.bool c.1) rfl) (by decide) (by decide) (by decide) 6 _, (((hfr4.out.thenX hfr5.out hFw.out).below' hA5.out).set (p := ⟨g + 1, 5, none⟩) (by have := hg.out; show w.heap.size ≤ g + 1; omega) _).set (p := ⟨g + 1, 6, none⟩) (by have := hg.out; show w.heap.size ≤ g + 1; omega) _⟩
              · exact blk_far (blk_far hg5.out (p := ⟨g + 1, 5, none⟩) (by show g ≠ g + 1; omega) _) (p := ⟨g + 1, 6, none⟩) (by show g ≠ g + 1; omega) _
              · exact blk_far (blk_far hy5.out (p := ⟨g + 1, 5, none⟩) (by show g + 2 ≠ g + 1; omega) _) (p := ⟨g + 1, 6, none⟩) (by show g + 2 ≠ g + 1; omega) _
            case measure => simp [intOf]
        · cases hf
          cases hb
          have ho : (((false && ia) && ib) && ic) = oq := Option.some.inj ho
          obtain ⟨b0, o0, cw, pw, fw, mw, hh4, k1, k2, k3, hcw, hw4⟩ := h4.out.three'
          clear k1 k2 k3
          have hw5 := cut_words (b := b0) (o := o0) (c := cw) hw4 3 (by simp)
          have r0 := (blk_cell hh4 0).trans (show _ = some (Value.slice (some ⟨b0, o0, none⟩) (rest.length + 3) cw) from rfl)
          have fr0 := blk_frozen hh4 0
          have hrg : r ≠ g + 1 := ne_type hh4 hx4 (by decide)
          have hrg0 : r ≠ g := ne_type hh4 hg4 (by decide)
          replace hw5 := Aside0.mk hw5
          replace hh4 := Aside0.mk hh4
          replace hx4 := Aside0.mk hx4
          replace hg4 := Aside0.mk hg4
          replace ho := Aside0.mk ho
          clear hw4 hy4 hcw
          go_upto_region 17 with fail
          have hx5 := Aside0.mk (blk_far hx4.out (p := ⟨r, 0, none⟩) (Ne.symm hrg) (.slice (if cw = 3 then some ⟨b0, o0, none⟩ else some ⟨b0, o0 + 3, none⟩) rest.length (cw - 3)))
          have hg5 := Aside0.mk (blk_far hg4.out (p := ⟨r, 0, none⟩) (Ne.symm hrg0) (.slice (if cw = 3 then some ⟨b0, o0, none⟩ else some ⟨b0, o0 + 3, none⟩) rest.length (cw - 3)))
          have hrd5 := Aside0.mk (h4.out.cut (ws' := rest) (V := (.slice (if cw = 3 then some ⟨b0, o0, none⟩ else some ⟨b0, o0 + 3, none⟩) rest.length (cw - 3))) (fun F2 hF2 => hw5.out.mono (fun b _ q => (hF2 b).1 q)))
          have hfr5 := Aside0.mk (hfr4.out.write (p := ⟨r, 0, none⟩) (fun _ => hr72.out.1) hr72.out.2 (.slice (if cw = 3 then some ⟨b0, o0, none⟩ else some ⟨b0, o0 + 3, none⟩) rest.length (cw - 3)))
          clear r0 fr0 hh4 hw5
          generalize wr.setCell ⟨r, 0, none⟩ (.slice (if cw = 3 then some ⟨b0, o0, none⟩ else some ⟨b0, o0 + 3, none⟩) rest.length (cw - 3)) = W5 at hx5 hg5 hrd5 hfr5 ⊢
          generalize Value.slice (if cw = 3 then some ⟨b0, o0, none⟩ else some ⟨b0, o0 + 3, none⟩) rest.length (cw - 3) = V5
          clear h4 hfr4 hx4 hg4
          clear wr
          obtain ⟨d0, d1, d2, d3, d4, d5, d6, d7⟩ := box8 hx5.out
          have f0 := blk_frozen hg5.out 0
          have f1 := blk_frozen hg5.out 1
          have f2 := blk_frozen hg5.out 2
          have f3 := blk_frozen hg5.out 3
          have f4 := blk_frozen hg5.out 4
          have f5 := blk_frozen hg5.out 5
          have f6 := blk_frozen hg5.out 6
          have f7 := blk_frozen hg5.out 7
          have q0 := (blk_cell hg5.out 0).trans (show _ = some (Value.int .i64 0) from rfl)
          have q1 := (blk_cell hg5.out 1).trans (show _ = some (Value.bool false) from rfl)
          have q2 := (blk_cell hg5.out 2).trans (show _ = some (Value.int .i64 0) from rfl)
          have q3 := (blk_cell hg5.out 3).trans (show _ = some (Value.bool false) from rfl)
          have q4 := (blk_cell hg5.out 4).trans (show _ = some (Value.int .i64 0) from rfl)
          have q5 := (blk_cell hg5.out 5).trans (show _ = some (Value.bool false) from rfl)
          have q6 := (blk_cell hg5.out 6).trans (show _ = some (Value.int .i64 0) from rfl)
          have q7 := (blk_cell hg5.out 7).trans (show _ = some (Value.slice none 0 0) from rfl)
          go_wp2
          have hx8 := (blk_put (blk_put (blk_put (blk_put (blk_put (blk_put (blk_put (blk_put hg5.out 0 (.int .i64 1) rfl) 1 (.bool a.1) rfl) 2 (.int .i64 a.2) rfl) 3 (.bool b.1) rfl) 4 (.int .i64 b.2) rfl) 5 (.bool c.1) rfl) 6 (.int .i64 c.2) rfl) 7 (.slice none 0 0) rfl)
          replace hx8 := (show _ = some (oC evA 72 1 a b c (.slice none 0 0)) from hx8)
          have z0 := (blk_cell hx8 0).trans (show _ = some (Value.int .i64 1) from rfl)
          have z1 := (blk_cell hx8 1).trans (show _ = some (Value.bool a.1) from rfl)
          have z2 := (blk_cell hx8 2).trans (show _ = some (Value.int .i64 a.2) from rfl)
          have z3 := (blk_cell hx8 3).trans (show _ = some (Value.bool b.1) from rfl)
          have z4 := (blk_cell hx8 4).trans (show _ = some (Value.int .i64 b.2) from rfl)
          have z5 := (blk_cell hx8 5).trans (show _ = some (Value.bool c.1) from rfl)
          have z6 := (blk_cell hx8 6).trans (show _ = some (Value.int .i64 c.2) from rfl)
          have z7 := (blk_cell hx8 7).trans (show _ = some (Value.slice none 0 0) from rfl)
          refine bodyPost_ret (v := .tuple #[aC evA 1 a b c (.slice none 0 0), .bool oq]) (by simp [results, Tryz.results61, go_sem, z0, z1, z2, z3, z4, z5, z6, z7]) rfl ⟨?_, ((((((((hfr5.out.set (p := ⟨g, 0, none⟩) (Nat.le_of_eq hg.out) _).set (p := ⟨g, 1, none⟩) (Nat.le_of_eq hg.out) _).set (p := ⟨g, 2, none⟩) (Nat.le_of_eq hg.out) _).set (p := ⟨g, 3, none⟩) (Nat.le_of_eq hg.out) _).set (p := ⟨g, 4, none⟩) (Nat.le_of_eq hg.out) _).set (p := ⟨g, 5, none⟩) (Nat.le_of_eq hg.out) _).set (p := ⟨g, 6, none⟩) (Nat.le_of_eq hg.out) _).set (p := ⟨g, 7, none⟩) (Nat.le_of_eq hg.out) _), F', hFw.out, ((((((((hrd5.out.set hg5.out (by decide) (by decide) (by decide) 0 (.int .i64 1)).set (blk_put hg5.out 0 (.int .i64 1) rfl) (by decide) (by decide) (by decide) 1 (.bool a.1)).set (blk_put (blk_put hg5.out 0 (.int .i64 1) rfl) 1 (.bool a.1) rfl) (by decide) (by decide) (by decide) 2 (.int .i64 a.2)).set (blk_put (blk_put (blk_put hg5.out 0 (.int .i64 1) rfl) 1 (.bool a.1) rfl) 2 (.int .i64 a.2) rfl) (by decide) (by decide) (by decide) 3 (.bool b.1)).set (blk_put (blk_put (blk_put (blk_put hg5.out 0 (.int .i64 1) rfl) 1 (.bool a.1) rfl) 2 (.int .i64 a.2) rfl) 3 (.bool b.1) rfl) (by decide) (by decide) (by decide) 4 (.int .i64 b.2)).set (blk_put (blk_put (blk_put (blk_put (blk_put hg5.out 0 (.int .i64 1) rfl) 1 (.bool a.1) rfl) 2 (.int .i64 a.2) rfl) 3 (.bool b.1) rfl) 4 (.int .i64 b.2) rfl) (by decide) (by decide) (by decide) 5 (.bool c.1)).set (blk_put (blk_put (blk_put (blk_put (blk_put (blk_put hg5.out 0 (.int .i64 1) rfl) 1 (.bool a.1) rfl) 2 (.int .i64 a.2) rfl) 3 (.bool b.1) rfl) 4 (.int .i64 b.2) rfl) 5 (.bool c.1) rfl) (by decide) (by decide) (by decide) 6 (.int .i64 c.2)).set (blk_put (blk_put (blk_put (blk_put (blk_put (blk_put (blk_put hg5.out 0 (.int .i64 1) rfl) 1 (.bool a.1) rfl) 2 (.int .i64 a.2) rfl) 3 (.bool b.1) rfl) 4 (.int .i64 b.2) rfl) 5 (.bool c.1) rfl) 6 (.int .i64 c.2) rfl) (by decide) (by decide) (by decide) 7 (.slice none 0 0))⟩
          have e : oq = okF := by
            rw [← hokF.out, hou.out, hos.out]
            exact ho.out.symm
          rw [e]
    · go_upto_region 11 with (first | (go_at_call 82; refine (hsh'.out _).mono ?_; rintro e w1 ⟨rfl, rfl⟩) | (go_at_call 81; refine (hp2'.out _).mono ?_; rintro e w1 ⟨rfl, rfl⟩))
      have hA3 := (Below.refl W2.heap.size W2).alloc (Nat.le_refl _) (.cells #[.string (str u), .string (str y), .string (str v)] 9)
      have hB3 := Aside0.mk (hB2.out.trans (hA3.mono hB2.out.size))
      have hg3 := Aside0.mk ((hA3.block _ (blk_lt hg2.out)).trans hg2.out)
      have hx3 := Aside0.mk ((hA3.block _ (blk_lt hx2.out)).trans hx2.out)
      have hy3 := blk_new W2 (.cells #[.string (str u), .string (str y), .string (str v)] 9)
      rw [hz2.out] at hy3
      replace hy3 := Aside0.mk hy3
      have h3 := Aside0.mk (h2.out.below hA3)
      clear hA3 hB2 r0 cy cz hp2' hsh' hg2 hx2 h2
      rw [hz2.out]
      generalize W2.alloc (.cells #[.string (str u), .string (str y), .string (str v)] 9) = W3 at hB3 hg3 hx3 hy3 h3 ⊢
      clear hz2
      clear W2
      go_loopw [64, 10] (fun i ok wr => ∃ (q : Nat) (f : List (List UInt8)) (oq : Bool) (bx : Obj) (F' : Nat → Prop), i = .int .i64 q ∧ ok = .bool oq ∧ q ≤ 3 ∧ [fr, f1, f2, f3][q]? = some f ∧ [os, (os && ia), ((os && ia) && ib), (((os && ia) && ib) && ic)][q]? = some oq ∧ [oC evA 72 1 (false, 0) (false, 0) (false, 0) (.slice none 0 0), oC evA 72 1 a (false, 0) (false, 0) (.slice none 0 0), oC evA 72 1 a b (false, 0) (.slice none 0 0), oC evA 72 1 a b c (.slice none 0 0)][q]? = some bx ∧ wr.heap[g + 1]? = some bx ∧ wr.heap[g]? = some z72' ∧ wr.heap[g + 2]? = some (.cells #[.string (str u), .string (str y), .string (str v)] 9) ∧ (∀ b, F' b → F b ∨ g + 3 ≤ b) ∧ RdE wr T F' r tb (x :: y :: z :: rest) ns f ∧ Fr w wr F) (fun i _ _ => 3 - (intOf i).toNat)
      case atStart => exact ⟨0, fr, _, _, F, rfl, rfl, by omega, rfl, rfl, rfl, hx3.out, hg3.out, hy3.out, fun b q => .inl q, h3.out, Fr.of_below hB3.out F⟩
      case round =>
        obtain ⟨q, f, oq, bx, F', rfl, rfl, hq, hf, ho, hb, hx4, hg4, hy4, hF', h4, hfr4⟩ := hrel
        clear hx3 hg3 hy3 h3 hB3
        clear W3
        replace h4 := Aside0.mk h4
        replace hfr4 := Aside0.mk hfr4
        replace hF' := Aside0.mk hF'
        have hFy : Aside0 (¬ F' (g + 2)) := ⟨fun q => (hF'.out _ q).elim (fun q => by have := hflt.out _ q; have := hg.out; omega) (fun q => by omega)⟩
        have hFw : Aside0 (∀ b, F' b → F b ∨ w.heap.size ≤ b) := ⟨fun b q => (hF'.out b q).imp id (fun q => by have := hg.out; omega)⟩
        rcases (show q = 0 ∨ q = 1 ∨ q = 2 ∨ q = 3 by omega) with rfl | rfl | rfl | rfl
        · cases hf
          cases hb
          have ho : os = oq := Option.some.inj ho
          have hcall := term_walk h4.out u (by omega) (by omega)
          rw [e0] at hcall
          replace hcall := Aside0.mk hcall
          have m9 := (blk_cell hy4 0).trans (show _ = some (Value.string (str u)) from rfl)
          replace hx4 := Aside0.mk hx4
          replace hg4 := Aside0.mk hg4
          replace hy4 := Aside0.mk hy4
          replace ho := Aside0.mk ho
          cases oq
          · go_wp2_with (go_at_call 83; refine hcall.out.mono ?_; rintro e w2 ⟨rfl, hfr5, hrx5⟩; have hA5 := Aside0.mk ((Below.refl w2.heap.size w2).alloc (Nat.le_refl _) (.cells #[.bool a.1, .int .i64 a.2] 69)); have hx5 := blk_alloc ((hfr5.k72 (g + 1) _ hx4.out).trans hx4.out) (.cells #[.bool a.1, .int .i64 a.2] 69); have hg5 := Aside0.mk (blk_alloc ((hfr5.k72 g _ hg4.out).trans hg4.out) (.cells #[.bool a.1, .int .i64 a.2] 69)); have hy5 := Aside0.mk (blk_alloc ((hfr5.ch.block (g + 2) (blk_lt hy4.out) hFy.out).trans hy4.out) (.cells #[.bool a.1, .int .i64 a.2] 69)); have hn5 := blk_new w2 (.cells #[.bool a.1, .int .i64 a.2] 69); have n0 := (blk_cell hn5 0).trans (show _ = some (Value.bool a.1) from rfl); have n1 := (blk_cell hn5 1).trans (show _ = some (Value.int .i64 a.2) from rfl); have g1 := blk_frozen hx5 1; have g2 := blk_frozen hx5 2; have p1 := (blk_cell hx5 1).trans (show _ = some (Value.bool false) from rfl); have p2 := (blk_cell hx5 2).trans (show _ = some (Value.int .i64 0) from rfl); replace hx5 := Aside0.mk hx5; replace hfr5 := Aside0.mk hfr5; replace hrx5 := Aside0.mk hrx5; clear hn5)
            go_roundw
            case rel =>
              obtain ⟨F2, hF2, hrd2⟩ := hrx5.out
              refine ⟨1, f1, false && ia, _, F2, by go_num, rfl, by omega, rfl, (by first | exact congrArg (fun t => some (t && ia)) ho.out | rfl), rfl, blk_put (blk_put hx5.out 1 (.bool a.1) rfl) 2 (.int .i64 a.2) rfl, ?_, ?_, fun b q => (hF2 b q).elim (hF'.out b) (fun q => .inr (by have := blk_lt hy4.out; omega)), ((hrd2.below hA5.out).set hx5.out (by decide) (by decide) (by decide) 1 _).set (blk_put hx5.out 1 (.bool a.1) rfl) (by decide) (by decide) (by decide) 2 _, (((hfr4.out.thenX hfr5.out hFw.out).below' hA5.out).set (p := ⟨g + 1, 1, none⟩) (by have := hg.out; show w.heap.size ≤ g + 1; omega) _).set (p := ⟨g + 1, 2, none⟩) (by have := hg.out; show w.heap.size ≤ g + 1; omega) _⟩
              · exact blk_far (blk_far hg5.out (p := ⟨g + 1, 1, none⟩) (by show g ≠ g + 1; omega) _) (p := ⟨g + 1, 2, none⟩) (by show g ≠ g + 1; omega) _
              · exact blk_far (blk_far hy5.out (p := ⟨g + 1, 1, none⟩) (by show g + 2 ≠ g + 1; omega) _) (p := ⟨g + 1, 2, none⟩) (by show g + 2 ≠ g + 1; omega) _
            case measure => simp [intOf]
          · go_wp2_with (go_at_call 83; refine hcall.out.mono ?_; rintro e w2 ⟨rfl, hfr5, hrx5⟩; have hA5 := Aside0.mk ((Below.refl w2.heap.size w2).alloc (Nat.le_refl _) (.cells #[.bool a.1, .int .i64 a.2] 69)); have hx5 := blk_alloc ((hfr5.k72 (g + 1) _ hx4.out).trans hx4.out) (.cells #[.bool a.1, .int .i64 a.2] 69); have hg5 := Aside0.mk (blk_alloc ((hfr5.k72 g _ hg4.out).trans hg4.out) (.cells #[.bool a.1, .int .i64 a.2] 69)); have hy5 := Aside0.mk (blk_alloc ((hfr5.ch.block (g + 2) (blk_lt hy4.out) hFy.out).trans hy4.out) (.cells #[.bool a.1, .int .i64 a.2] 69)); have hn5 := blk_new w2 (.cells #[.bool a.1, .int .i64 a.2] 69); have n0 := (blk_cell hn5 0).trans (show _ = some (Value.bool a.1) from rfl); have n1 := (blk_cell hn5 1).trans (show _ = some (Value.int .i64 a.2) from rfl); have g1 := blk_frozen hx5 1; have g2 := blk_frozen hx5 2; have p1 := (blk_cell hx5 1).trans (show _ = some (Value.bool false) from rfl); have p2 := (blk_cell hx5 2).trans (show _ = some (Value.int .i64 0) from rfl); replace hx5 := Aside0.mk hx5; replace hfr5 := Aside0.mk hfr5; replace hrx5 := Aside0.mk hrx5; clear hn5)
            go_roundw
            case rel =>
              obtain ⟨F2, hF2, hrd2⟩ := hrx5.out
              refine ⟨1, f1, true && ia, _, F2, by go_num, rfl, by omega, rfl, (by first | exact congrArg (fun t => some (t && ia)) ho.out | rfl), rfl, blk_put (blk_put hx5.out 1 (.bool a.1) rfl) 2 (.int .i64 a.2) rfl, ?_, ?_, fun b q => (hF2 b q).elim (hF'.out b) (fun q => .inr (by have := blk_lt hy4.out; omega)), ((hrd2.below hA5.out).set hx5.out (by decide) (by decide) (by decide) 1 _).set (blk_put hx5.out 1 (.bool a.1) rfl) (by decide) (by decide) (by decide) 2 _, (((hfr4.out.thenX hfr5.out hFw.out).below' hA5.out).set (p := ⟨g + 1, 1, none⟩) (by have := hg.out; show w.heap.size ≤ g + 1; omega) _).set (p := ⟨g + 1, 2, none⟩) (by have := hg.out; show w.heap.size ≤ g + 1; omega) _⟩
              · exact blk_far (blk_far hg5.out (p := ⟨g + 1, 1, none⟩) (by show g ≠ g + 1; omega) _) (p := ⟨g + 1, 2, none⟩) (by show g ≠ g + 1; omega) _
              · exact blk_far (blk_far hy5.out (p := ⟨g + 1, 1, none⟩) (by show g + 2 ≠ g + 1; omega) _) (p := ⟨g + 1, 2, none⟩) (by show g + 2 ≠ g + 1; omega) _
            case measure => simp [intOf]
        · cases hf
          cases hb
          have ho : (os && ia) = oq := Option.some.inj ho
          have hcall := term_walk h4.out y (by omega) (by omega)
          rw [e1] at hcall
          replace hcall := Aside0.mk hcall
          have m9 := (blk_cell hy4 1).trans (show _ = some (Value.string (str y)) from rfl)
          replace hx4 := Aside0.mk hx4
          replace hg4 := Aside0.mk hg4
          replace hy4 := Aside0.mk hy4
          replace ho := Aside0.mk ho
          cases oq
          · go_wp2_with (go_at_call 83; refine hcall.out.mono ?_; rintro e w2 ⟨rfl, hfr5, hrx5⟩; have hA5 := Aside0.mk ((Below.refl w2.heap.size w2).alloc (Nat.le_refl _) (.cells #[.bool b.1, .int .i64 b.2] 69)); have hx5 := blk_alloc ((hfr5.k72 (g + 1) _ hx4.out).trans hx4.out) (.cells #[.bool b.1, .int .i64 b.2] 69); have hg5 := Aside0.mk (blk_alloc ((hfr5.k72 g _ hg4.out).trans hg4.out) (.cells #[.bool b.1, .int .i64 b.2] 69)); have hy5 := Aside0.mk (blk_alloc ((hfr5.ch.block (g + 2) (blk_lt hy4.out) hFy.out).trans hy4.out) (.cells #[.bool b.1, .int .i64 b.2] 69)); have hn5 := blk_new w2 (.cells #[.bool b.1, .int .i64 b.2] 69); have n0 := (blk_cell hn5 0).trans (show _ = some (Value.bool b.1) from rfl); have n1 := (blk_cell hn5 1).trans (show _ = some (Value.int .i64 b.2) from rfl); have g1 := blk_frozen hx5 3; have g2 := blk_frozen hx5 4; have p1 := (blk_cell hx5 3).trans (show _ = some (Value.bool false) from rfl); have p2 := (blk_cell hx5 4).trans (show _ = some (Value.int .i64 0) from rfl); replace hx5 := Aside0.mk hx5; replace hfr5 := Aside0.mk hfr5; replace hrx5 := Aside0.mk hrx5; clear hn5)
            go_roundw
            case rel =>
              obtain ⟨F2, hF2, hrd2⟩ := hrx5.out
              refine ⟨2, f2, false && ib, _, F2, by go_num, rfl, by omega, rfl, (by first | exact congrArg (fun t => some (t && ib)) ho.out | rfl), rfl, blk_put (blk_put hx5.out 3 (.bool b.1) rfl) 4 (.int .i64 b.2) rfl, ?_, ?_, fun b q => (hF2 b q).elim (hF'.out b) (fun q => .inr (by have := blk_lt hy4.out; omega)), ((hrd2.below hA5.out).set hx5.out (by decide) (by decide) (by decide) 3 _).set (blk_put hx5.out 3 (.bool b.1) rfl) (by decide) (by decide) (by decide) 4 _, (((hfr4.out.thenX hfr5.out hFw.out).below' hA5.out).set (p := ⟨g + 1, 3, none⟩) (by have := hg.out; show w.heap.size ≤ g + 1; omega) _).set (p := ⟨g + 1, 4, none⟩) (by have := hg.out; show w.heap.size ≤ g + 1; omega) _⟩
              · exact blk_far (blk_far hg5.out (p := ⟨g + 1, 3, none⟩) (by show g ≠ g + 1; omega) _) (p := ⟨g + 1, 4, none⟩) (by show g ≠ g + 1; omega) _
              · exact blk_far (blk_far hy5.out (p := ⟨g + 1, 3, none⟩) (by show g + 2 ≠ g + 1; omega) _) (p := ⟨g + 1, 4, none⟩) (by show g + 2 ≠ g + 1; omega) _
            case measure => simp [intOf]
          · go_wp2_with (go_at_call 83; refine hcall.out.mono ?_; rintro e w2 ⟨rfl, hfr5, hrx5⟩; have hA5 := Aside0.mk ((Below.refl w2.heap.size w2).alloc (Nat.le_refl _) (.cells #[.bool b.1, .int .i64 b.2] 69)); have hx5 := blk_alloc ((hfr5.k72 (g + 1) _ hx4.out).trans hx4.out) (.cells #[.bool b.1, .int .i64 b.2] 69); have hg5 := Aside0.mk (blk_alloc ((hfr5.k72 g _ hg4.out).trans hg4.out) (.cells #[.bool b.1, .int .i64 b.2] 69)); have hy5 := Aside0.mk (blk_alloc ((hfr5.ch.block (g + 2) (blk_lt hy4.out) hFy.out).trans hy4.out) (.cells #[.bool b.1, .int .i64 b.2] 69)); have hn5 := blk_new w2 (.cells #[.bool b.1, .int .i64 b.2] 69); have n0 := (blk_cell hn5 0).trans (show _ = some (Value.bool b.1) from rfl); have n1 := (blk_cell hn5 1).trans (show _ = some (Value.int .i64 b.2) from rfl); have g1 := blk_frozen hx5 3; have g2 := blk_frozen hx5 4; have p1 := (blk_cell hx5 3).trans (show _ = some (Value.bool false) from rfl); have p2 := (blk_cell hx5 4).trans (show _ = some (Value.int .i64 0) from rfl); replace hx5 := Aside0.mk hx5; replace hfr5 := Aside0.mk hfr5; replace hrx5 := Aside0.mk hrx5; clear hn5)
            go_roundw
            case rel =>
              obtain ⟨F2, hF2, hrd2⟩ := hrx5.out
              refine ⟨2, f2, true && ib, _, F2, by go_num, rfl, by omega, rfl, (by first | exact congrArg (fun t => some (t && ib)) ho.out | rfl), rfl, blk_put (blk_put hx5.out 3 (.bool b.1) rfl) 4 (.int .i64 b.2) rfl, ?_, ?_, fun b q => (hF2 b q).elim (hF'.out b) (fun q => .inr (by have := blk_lt hy4.out; omega)), ((hrd2.below hA5.out).set hx5.out (by decide) (by decide) (by decide) 3 _).set (blk_put hx5.out 3 (.bool b.1) rfl) (by decide) (by decide) (by decide) 4 _, (((hfr4.out.thenX hfr5.out hFw.out).below' hA5.out).set (p := ⟨g + 1, 3, none⟩) (by have := hg.out; show w.heap.size ≤ g + 1; omega) _).set (p := ⟨g + 1, 4, none⟩) (by have := hg.out; show w.heap.size ≤ g + 1; omega) _⟩
              · exact blk_far (blk_far hg5.out (p := ⟨g + 1, 3, none⟩) (by show g ≠ g + 1; omega) _) (p := ⟨g + 1, 4, none⟩) (by show g ≠ g + 1; omega) _
              · exact blk_far (blk_far hy5.out (p := ⟨g + 1, 3, none⟩) (by show g + 2 ≠ g + 1; omega) _) (p := ⟨g + 1, 4, none⟩) (by show g + 2 ≠ g + 1; omega) _
            case measure => simp [intOf]
        · cases hf
          cases hb
          have ho : ((os && ia) && ib) = oq := Option.some.inj ho
          have hcall := term_walk h4.out v (by omega) (by omega)
          rw [e2] at hcall
          replace hcall := Aside0.mk hcall
          have m9 := (blk_cell hy4 2).trans (show _ = some (Value.string (str v)) from rfl)
          replace hx4 := Aside0.mk hx4
          replace hg4 := Aside0.mk hg4
          replace hy4 := Aside0.mk hy4
          replace ho := Aside0.mk ho
          cases oq
          · go_wp2_with (go_at_call 83; refine hcall.out.mono ?_; rintro e w2 ⟨rfl, hfr5, hrx5⟩; have hA5 := Aside0.mk ((Below.refl w2.heap.size w2).alloc (Nat.le_refl _) (.cells #[.bool c.1, .int .i64 c.2] 69)); have hx5 := blk_alloc ((hfr5.k72 (g + 1) _ hx4.out).trans hx4.out) (.cells #[.bool c.1, .int .i64 c.2] 69); have hg5 := Aside0.mk (blk_alloc ((hfr5.k72 g _ hg4.out).trans hg4.out) (.cells #[.bool c.1, .int .i64 c.2] 69)); have hy5 := Aside0.mk (blk_alloc ((hfr5.ch.block (g + 2) (blk_lt hy4.out) hFy.out).trans hy4.out) (.cells #[.bool c.1, .int .i64 c.2] 69)); have hn5 := blk_new w2 (.cells #[.bool c.1, .int .i64 c.2] 69); have n0 := (blk_cell hn5 0).trans (show _ = some (Value.bool c.1) from rfl); have n1 := (blk_cell hn5 1).trans (show _ = some (Value.int .i64 c.2) from rfl); have g1 := blk_frozen hx5 5; have g2 := blk_frozen hx5 6; have p1 := (blk_cell hx5 5).trans (show _ = some (Value.bool false) from rfl); have p2 := (blk_cell hx5 6).trans (show _ = some (Value.int .i64 0) from rfl); replace hx5 := Aside0.mk hx5; replace hfr5 := Aside0.mk hfr5; replace hrx5 := Aside0.mk hrx5; clear hn5)
            go_roundw
            case rel =>
              obtain ⟨F2, hF2, hrd2⟩ := hrx5.out
              refine ⟨3, f3, false && ic, _, F2, by go_num, rfl, by omega, rfl, (by first | exact congrArg (fun t => some (t && ic)) ho.out | rfl), rfl, blk_put (blk_put hx5.out 5 (.bool c.1) rfl) 6 (.int .i64 c.2) rfl, ?_, ?_, fun b q => (hF2 b q).elim (hF'.out b) (fun q => .inr (by have := blk_lt hy4.out; omega)), ((hrd2.below hA5.out).set hx5.out (by decide) (by decide) (by decide) 5 _).set (blk_put hx5.out 5 (.bool c.1) rfl) (by decide) (by decide) (by decide) 6 _, (((hfr4.out.thenX hfr5.out hFw.out).below' hA5.out).set (p := ⟨g + 1, 5, none⟩) (by have := hg.out; show w.heap.size ≤ g + 1; omega) _).set (p := ⟨g + 1, 6, none⟩) (by have := hg.out; show w.heap.size ≤ g + 1; omega) _⟩
              · exact blk_far (blk_far hg5.out (p := ⟨g + 1, 5, none⟩) (by show g ≠ g + 1; omega) _) (p := ⟨g + 1, 6, none⟩) (by show g ≠ g + 1; omega) _
              · exact blk_far (blk_far hy5.out (p := ⟨g + 1, 5, none⟩) (by show g + 2 ≠ g + 1; omega) _) (p := ⟨g + 1, 6, none⟩) (by show g + 2 ≠ g + 1; omega) _
            case measure => simp [intOf]
          · go_wp2_with (go_at_call 83; refine hcall.out.mono ?_; rintro e w2 ⟨rfl, hfr5, hrx5⟩; have hA5 := Aside0.mk ((Below.refl w2.heap.size w2).alloc (Nat.le_refl _) (.cells #[.bool c.1, .int .i64 c.2] 69)); have hx5 := blk_alloc ((hfr5.k72 (g + 1) _ hx4.out).trans hx4.out) (.cells #[.bool c.1, .int .i64 c.2] 69); have hg5 := Aside0.mk (blk_alloc ((hfr5.k72 g _ hg4.out).trans hg4.out) (.cells #[.bool c.1, .int .i64 c.2] 69)); have hy5 := Aside0.mk (blk_alloc ((hfr5.ch.block (g + 2) (blk_lt hy4.out) hFy.out).trans hy4.out) (.cells #[.bool c.1, .int .i64 c.2] 69)); have hn5 := blk_new w2 (.cells #[.bool c.1, .int .i64 c.2] 69); have n0 := (blk_cell hn5 0).trans (show _ = some (Value.bool c.1) from rfl); have n1 := (blk_cell hn5 1).trans (show _ = some (Value.int .i64 c.2) from rfl); have g1 := blk_frozen hx5 5; have g2 := blk_frozen hx5 6; have p1 := (blk_cell hx5 5).trans (show _ = some (Value.bool false) from rfl); have p2 := (blk_cell hx5 6).trans (show _ = some (Value.int .i64 0) from rfl); replace hx5 := Aside0.mk hx5; replace hfr5 := Aside0.mk hfr5; replace hrx5 := Aside0.mk hrx5; clear hn5)
            go_roundw
            case rel =>
              obtain ⟨F2, hF2, hrd2⟩ := hrx5.out
              refine ⟨3, f3, true && ic, _, F2, by go_num, rfl, by omega, rfl, (by first | exact congrArg (fun t => some (t && ic)) ho.out | rfl), rfl, blk_put (blk_put hx5.out 5 (.bool c.1) rfl) 6 (.int .i64 c.2) rfl, ?_, ?_, fun b q => (hF2 b q).elim (hF'.out b) (fun q => .inr (by have := blk_lt hy4.out; omega)), ((hrd2.below hA5.out).set hx5.out (by decide) (by decide) (by decide) 5 _).set (blk_put hx5.out 5 (.bool c.1) rfl) (by decide) (by decide) (by decide) 6 _, (((hfr4.out.thenX hfr5.out hFw.out).below' hA5.out).set (p := ⟨g + 1, 5, none⟩) (by have := hg.out; show w.heap.size ≤ g + 1; omega) _).set (p := ⟨g + 1, 6, none⟩) (by have := hg.out; show w.heap.size ≤ g + 1; omega) _⟩
              · exact blk_far (blk_far hg5.out (p := ⟨g + 1, 5, none⟩) (by show g ≠ g + 1; omega) _) (p := ⟨g + 1, 6, none⟩) (by show g ≠ g + 1; omega) _
              · exact blk_far (blk_far hy5.out (p := ⟨g + 1, 5, none⟩) (by show g + 2 ≠ g + 1; omega) _) (p := ⟨g + 1, 6, none⟩) (by show g + 2 ≠ g + 1; omega) _
            case measure => simp [intOf]
        · cases hf
          cases hb
          have ho : (((os && ia) && ib) && ic) = oq := Option.some.inj ho
          obtain ⟨b0, o0, cw, pw, fw, mw, hh4, k1, k2, k3, hcw, hw4⟩ := h4.out.three'
          clear k1 k2 k3
          have hw5 := cut_words (b := b0) (o := o0) (c := cw) hw4 3 (by simp)
          have r0 := (blk_cell hh4 0).trans (show _ = some (Value.slice (some ⟨b0, o0, none⟩) (rest.length + 3) cw) from rfl)
          have fr0 := blk_frozen hh4 0
          have hrg : r ≠ g + 1 := ne_type hh4 hx4 (by decide)
          have hrg0 : r ≠ g := ne_type hh4 hg4 (by decide)
          replace hw5 := Aside0.mk hw5
          replace hh4 := Aside0.mk hh4
          replace hx4 := Aside0.mk hx4
          replace hg4 := Aside0.mk hg4
          replace ho := Aside0.mk ho
          clear hw4 hy4 hcw
          go_upto_region 17 with fail
          have hx5 := Aside0.mk (blk_far hx4.out (p := ⟨r, 0, none⟩) (Ne.symm hrg) (.slice (if cw = 3 then some ⟨b0, o0, none⟩ else some ⟨b0, o0 + 3, none⟩) rest.length (cw - 3)))
          have hg5 := Aside0.mk (blk_far hg4.out (p := ⟨r, 0, none⟩) (Ne.symm hrg0) (.slice (if cw = 3 then some ⟨b0, o0, none⟩ else some ⟨b0, o0 + 3, none⟩) rest.length (cw - 3)))
          have hrd5 := Aside0.mk (h4.out.cut (ws' := rest) (V := (.slice (if cw = 3 then some ⟨b0, o0, none⟩ else some ⟨b0, o0 + 3, none⟩) rest.length (cw - 3))) (fun F2 hF2 => hw5.out.mono (fun b _ q => (hF2 b).1 q)))
          have hfr5 := Aside0.mk (hfr4.out.write (p := ⟨r, 0, none⟩) (fun _ => hr72.out.1) hr72.out.2 (.slice (if cw = 3 then some ⟨b0, o0, none⟩ else some ⟨b0, o0 + 3, none⟩) rest.length (cw - 3)))
          clear r0 fr0 hh4 hw5
          generalize wr.setCell ⟨r, 0, none⟩ (.slice (if cw = 3 then some ⟨b0, o0, none⟩ else some ⟨b0, o0 + 3, none⟩) rest.length (cw - 3)) = W5 at hx5 hg5 hrd5 hfr5 ⊢
          generalize Value.slice (if cw = 3 then some ⟨b0, o0, none⟩ else some ⟨b0, o0 + 3, none⟩) rest.length (cw - 3) = V5
          clear h4 hfr4 hx4 hg4
          clear wr
          obtain ⟨d0, d1, d2, d3, d4, d5, d6, d7⟩ := box8 hx5.out
          have f0 := blk_frozen hg5.out 0
          have f1 := blk_frozen hg5.out 1
          have f2 := blk_frozen hg5.out 2
          have f3 := blk_frozen hg5.out 3
          have f4 := blk_frozen hg5.out 4
          have f5 := blk_frozen hg5.out 5
          have f6 := blk_frozen hg5.out 6
          have f7 := blk_frozen hg5.out 7
          have q0 := (blk_cell hg5.out 0).trans (show _ = some (Value.int .i64 0) from rfl)
          have q1 := (blk_cell hg5.out 1).trans (show _ = some (Value.bool false) from rfl)
          have q2 := (blk_cell hg5.out 2).trans (show _ = some (Value.int .i64 0) from rfl)
          have q3 := (blk_cell hg5.out 3).trans (show _ = some (Value.bool false) from rfl)
          have q4 := (blk_cell hg5.out 4).trans (show _ = some (Value.int .i64 0) from rfl)
          have q5 := (blk_cell hg5.out 5).trans (show _ = some (Value.bool false) from rfl)
          have q6 := (blk_cell hg5.out 6).trans (show _ = some (Value.int .i64 0) from rfl)
          have q7 := (blk_cell hg5.out 7).trans (show _ = some (Value.slice none 0 0) from rfl)
          go_wp2
          have hx8 := (blk_put (blk_put (blk_put (blk_put (blk_put (blk_put (blk_put (blk_put hg5.out 0 (.int .i64 1) rfl) 1 (.bool a.1) rfl) 2 (.int .i64 a.2) rfl) 3 (.bool b.1) rfl) 4 (.int .i64 b.2) rfl) 5 (.bool c.1) rfl) 6 (.int .i64 c.2) rfl) 7 (.slice none 0 0) rfl)
          replace hx8 := (show _ = some (oC evA 72 1 a b c (.slice none 0 0)) from hx8)
          have z0 := (blk_cell hx8 0).trans (show _ = some (Value.int .i64 1) from rfl)
          have z1 := (blk_cell hx8 1).trans (show _ = some (Value.bool a.1) from rfl)
          have z2 := (blk_cell hx8 2).trans (show _ = some (Value.int .i64 a.2) from rfl)
          have z3 := (blk_cell hx8 3).trans (show _ = some (Value.bool b.1) from rfl)
          have z4 := (blk_cell hx8 4).trans (show _ = some (Value.int .i64 b.2) from rfl)
          have z5 := (blk_cell hx8 5).trans (show _ = some (Value.bool c.1) from rfl)
          have z6 := (blk_cell hx8 6).trans (show _ = some (Value.int .i64 c.2) from rfl)
          have z7 := (blk_cell hx8 7).trans (show _ = some (Value.slice none 0 0) from rfl)
          refine bodyPost_ret (v := .tuple #[aC evA 1 a b c (.slice none 0 0), .bool oq]) (by simp [results, Tryz.results61, go_sem, z0, z1, z2, z3, z4, z5, z6, z7]) rfl ⟨?_, ((((((((hfr5.out.set (p := ⟨g, 0, none⟩) (Nat.le_of_eq hg.out) _).set (p := ⟨g, 1, none⟩) (Nat.le_of_eq hg.out) _).set (p := ⟨g, 2, none⟩) (Nat.le_of_eq hg.out) _).set (p := ⟨g, 3, none⟩) (Nat.le_of_eq hg.out) _).set (p := ⟨g, 4, none⟩) (Nat.le_of_eq hg.out) _).set (p := ⟨g, 5, none⟩) (Nat.le_of_eq hg.out) _).set (p := ⟨g, 6, none⟩) (Nat.le_of_eq hg.out) _).set (p := ⟨g, 7, none⟩) (Nat.le_of_eq hg.out) _), F', hFw.out, ((((((((hrd5.out.set hg5.out (by decide) (by decide) (by decide) 0 (.int .i64 1)).set (blk_put hg5.out 0 (.int .i64 1) rfl) (by decide) (by decide) (by decide) 1 (.bool a.1)).set (blk_put (blk_put hg5.out 0 (.int .i64 1) rfl) 1 (.bool a.1) rfl) (by decide) (by decide) (by decide) 2 (.int .i64 a.2)).set (blk_put (blk_put (blk_put hg5.out 0 (.int .i64 1) rfl) 1 (.bool a.1) rfl) 2 (.int .i64 a.2) rfl) (by decide) (by decide) (by decide) 3 (.bool b.1)).set (blk_put (blk_put (blk_put (blk_put hg5.out 0 (.int .i64 1) rfl) 1 (.bool a.1) rfl) 2 (.int .i64 a.2) rfl) 3 (.bool b.1) rfl) (by decide) (by decide) (by decide) 4 (.int .i64 b.2)).set (blk_put (blk_put (blk_put (blk_put (blk_put hg5.out 0 (.int .i64 1) rfl) 1 (.bool a.1) rfl) 2 (.int .i64 a.2) rfl) 3 (.bool b.1) rfl) 4 (.int .i64 b.2) rfl) (by decide) (by decide) (by decide) 5 (.bool c.1)).set (blk_put (blk_put (blk_put (blk_put (blk_put (blk_put hg5.out 0 (.int .i64 1) rfl) 1 (.bool a.1) rfl) 2 (.int .i64 a.2) rfl) 3 (.bool b.1) rfl) 4 (.int .i64 b.2) rfl) 5 (.bool c.1) rfl) (by decide) (by decide) (by decide) 6 (.int .i64 c.2)).set (blk_put (blk_put (blk_put (blk_put (blk_put (blk_put (blk_put hg5.out 0 (.int .i64 1) rfl) 1 (.bool a.1) rfl) 2 (.int .i64 a.2) rfl) 3 (.bool b.1) rfl) 4 (.int .i64 b.2) rfl) 5 (.bool c.1) rfl) 6 (.int .i64 c.2) rfl) (by decide) (by decide) (by decide) 7 (.slice none 0 0))⟩
          have e : oq = okF := by
            rw [← hokF.out, hou.out, hos.out]
            exact ho.out.symm
          rw [e]
end Go.Proofs.YtkbkkceeolclmaaGreatDoor.X
