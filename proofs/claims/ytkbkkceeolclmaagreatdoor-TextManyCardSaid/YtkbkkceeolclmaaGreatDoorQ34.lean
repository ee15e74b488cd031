/- A rule is read. -/
import Derived.Test.YtkbkkceeolclmaaGreatDoorQ09
import Derived.Test.YtkbkkceeolclmaaGreatDoorQ33
set_option linter.unusedVariables false
set_option linter.unusedSimpArgs false
namespace Go.Proofs.YtkbkkceeolclmaaGreatDoor.X
open Go.RowKit Go.TX Go.Proofs.YtkbkkceeolclmaaGreatDoorW.PrintWords Go.Proofs.YtkbkkceeolclmaaGreatDoorL
abbrev z25 : Obj := .cells #[.string ⟨#[]⟩, .slice none 0 0] 25
/-- What a reading leaves: a rule, the table's names. -/
def PPost (w : World) (T : Nat → Prop) (tb : Nat) (res : (List UInt8 × List Cd) × List (List UInt8) × Int) (e : Ending) (W : World) : Prop :=
  ∃ V, e = .returned (.tuple #[.agg #[.string (str res.1.1), V], .int .i64 res.2.2]) ∧ Fr w W T ∧ (∃ T', (∀ b, T' b → T b ∨ w.heap.size ≤ b) ∧ Tb W T' tb res.2.1) ∧ BX w.heap.size W V res.1.2
theorem PPost.of {w W : World} {T : Nat → Prop} {tb : Nat} {res : (List UInt8 × List Cd) × List (List UInt8) × Int} {V : Value} (hFr : Fr w W T) (hT : ∃ T', (∀ b, T' b → T b ∨ w.heap.size ≤ b) ∧ Tb W T' tb res.2.1) (hV : BX w.heap.size W V res.1.2) {g : Nat} (hx : W.heap[g]? = some z25) (hg : w.heap.size ≤ g) (u v : Value) :
    PPost w T tb res (.returned (.tuple #[.agg #[.string (str res.1.1), V], .int .i64 res.2.2])) ((W.setCell ⟨g, 0, none⟩ u).setCell ⟨g, 1, none⟩ v) := by
  obtain ⟨T', h1, h2⟩ := hT
  exact ⟨V, rfl, (hFr.set (p := ⟨g, 0, none⟩) hg u).set (p := ⟨g, 1, none⟩) hg v, ⟨T', h1, (h2.set hx (by decide) (by decide) 0 u).set (blk_put hx 0 u rfl) (by decide) (by decide) 1 v⟩, (hV.set hx (by decide) 0 u).set (blk_put hx 0 u rfl) (by decide) 1 v⟩
set_option maxRecDepth 100000 in
set_option maxHeartbeats 4000000 in
theorem parse_walk {w : World} {T : Nat → Prop} {tb : Nat} {ns : List (List UInt8)} (h : Tb w T tb ns) (hT : ∀ b, T b → b < w.heap.size) (hN : Names ns) (hnl : ns.length ≤ 5000) (hE : Env w) (s : List UInt8) (hs : s.length ≤ 5000) :
    Calls Tryz.prog 14 #[.string (str s), .pointer (some ⟨tb, 0, none⟩)] w (PPost w T tb (rparse ns s)) := by
  have hwb := words_bound s
  have hB0 := Aside0.mk ((Below.refl w.heap.size w).alloc (Nat.le_refl _) z25)
  have hx0 := Aside0.mk (blk_new w z25)
  have hT0 := Aside0.mk (h.below hB0.out)
  have hz0 := Aside0.mk (show (w.alloc z25).heap.size = w.heap.size + 1 by simp)
  have hread := Aside0.mk (read_walk (w := w.alloc z25) hT0.out (fun b q => Nat.lt_of_lt_of_le (hT b q) hB0.out.size) (hE.below hB0.out) s (by omega) (by omega))
  obtain ⟨res, hres⟩ : ∃ q, rparse ns s = q := ⟨_, rfl⟩
  rw [hres]
  obtain ⟨nm, l, hw⟩ : ∃ nm l, words s = nm :: l := by
    cases hw : words s with
    | nil => exact absurd hw (words_ne s)
    | cons a t => exact ⟨a, t, rfl⟩
  rw [hw] at hread hwb
  unfold rparse at hres
  rw [hw] at hres
  simp only at hres
  replace hres := Aside0.mk hres
  have hnml : nm.length ≤ 5000 := by have := hwb.2 nm (by simp); omega
  have hll : l.length ≤ 5000 := by have := hwb.1; rw [List.length_cons] at this; omega
  have hwl := Aside0.mk (fun (x : List UInt8) (hx : x ∈ l) => show x.length ≤ 5000 by have := hwb.2 x (by simp [hx]); omega)
  clear h hwb hw
  replace hN := Aside0.mk hN
  replace hT := Aside0.mk hT
  replace hE := Aside0.mk hE
  go_enter Tryz.func14, Tryz.ntmps14
  go_upto_region 1 with fail
  generalize w.alloc z25 = W0 at hB0 hx0 hT0 hz0 hread ⊢
  generalize hg : w.heap.size = g at hx0 hz0 ⊢
  replace hg := Aside0.mk hg
  go_upto_region 2 with (go_at_call 33; refine hread.out.mono ?_; rintro e w1 ⟨r, rfl, hb1, F, hF, hrd1⟩; replace hb1 := Aside0.mk hb1; replace hrd1 := Aside0.mk hrd1; replace hF := Aside0.mk (fun b (q : F b) => show g < b by have := hF b q; have := hz0.out; omega))
  obtain ⟨bw, o, cw, p, f, mm, hh, cx, hcw, hws⟩ := hrd1.out.one
  have r0 := (blk_cell hh 0).trans (show _ = some (Value.slice (some ⟨bw, o, none⟩) (l.length + 1) cw) from rfl)
  clear hh hws
  go_upto_region 3 with fail
  have hA2 := (Below.refl w1.heap.size w1).alloc (Nat.le_refl _) (.cells #[.string (str nm), .slice none 0 0] 25)
  have hn2 := Aside0.mk (blk_new w1 (.cells #[.string (str nm), .slice none 0 0] 25))
  have hrd2 := Aside0.mk (hrd1.out.below hA2)
  have hx2 := Aside0.mk ((hA2.block _ (blk_lt ((hb1.out.block g (blk_lt hx0.out)).trans hx0.out))).trans ((hb1.out.block g (blk_lt hx0.out)).trans hx0.out))
  have hB2 := Aside0.mk ((hB0.out.trans (hb1.out.mono hB0.out.size)).trans (hA2.mono (Nat.le_trans hB0.out.size hb1.out.size)))
  have hFlt := Aside0.mk hrd1.out.flt
  have hg2 := Aside0.mk (show g + 1 ≤ w1.heap.size by have := hb1.out.size; have := hz0.out; omega)
  clear r0 cx hcw hrd1 hA2 hx0 hT0 hread hb1 hB0
  generalize w1.alloc (.cells #[.string (str nm), .slice none 0 0] 25) = W2 at hn2 hrd2 hx2 hB2 ⊢
  generalize w1.heap.size = g2 at hn2 hg2 hFlt ⊢
  obtain ⟨bw, o, cw, p, f, mm, hh, cx, hcw, hws⟩ := hrd2.out.one
  have r0 := (blk_cell hh 0).trans (show _ = some (Value.slice (some ⟨bw, o, none⟩) (l.length + 1) cw) from rfl)
  have fr0 := blk_frozen hh 0
  have hcut := cut_words hws 1 (by simp)
  have hrg : r ≠ g := ne_type hh hx2.out (by decide)
  have hrg2 : r ≠ g2 := ne_type hh hn2.out (by decide)
  have hgr : g ≤ r := Nat.le_of_lt (hF.out r hrd2.out.r72.1)
  clear hh hws cx hcw
  clear w1
  go_upto_region 4 with fail
  have hrd3 := Aside0.mk (hrd2.out.cut (ws' := l) (V := .slice (if cw = 1 then some ⟨bw, o, none⟩ else some ⟨bw, o + 1, none⟩) l.length (cw - 1)) (fun F2 hF2 => hcut.mono (fun b _ q => (hF2 b).1 q)))
  have hn3 := Aside0.mk (blk_far hn2.out (p := ⟨r, 0, none⟩) (Ne.symm hrg2) (.slice (if cw = 1 then some ⟨bw, o, none⟩ else some ⟨bw, o + 1, none⟩) l.length (cw - 1)))
  have hx3 := Aside0.mk (blk_far hx2.out (p := ⟨r, 0, none⟩) (Ne.symm hrg) (.slice (if cw = 1 then some ⟨bw, o, none⟩ else some ⟨bw, o + 1, none⟩) l.length (cw - 1)))
  have hB3 := Aside0.mk (hB2.out.setCell (p := ⟨r, 0, none⟩) (by have := hg.out; show w.heap.size ≤ r; omega) (.slice (if cw = 1 then some ⟨bw, o, none⟩ else some ⟨bw, o + 1, none⟩) l.length (cw - 1)))
  clear r0 fr0 hcut hn2 hx2 hB2 hrd2
  generalize W2.setCell ⟨r, 0, none⟩ (.slice (if cw = 1 then some ⟨bw, o, none⟩ else some ⟨bw, o + 1, none⟩) l.length (cw - 1)) = W3 at hrd3 hn3 hx3 hB3 ⊢
  generalize Value.slice (if cw = 1 then some ⟨bw, o, none⟩ else some ⟨bw, o + 1, none⟩) l.length (cw - 1) = V3
  clear W2
  have hcall := Aside0.mk (conds_walk (l.length + 1) (l.length + 1) W3 F l [] false (Nat.le_refl _) (Nat.lt_succ_self _) hrd3.out hwl.out (by simp; omega))
  rw [List.append_nil] at hcall
  go_upto_region 5 with (go_at_call 34; refine hcall.out.mono ?_; rintro e w4 ⟨V4, ok4, ws4, fr4, rfl, hfr4, hrx4, hle4, hsuf4, hres4⟩; replace hfr4 := Aside0.mk hfr4; replace hrx4 := Aside0.mk hrx4; replace hres4 := Aside0.mk hres4)
  have hF2 := Aside0.mk (fun b (q : F b) => show T b ∨ w.heap.size ≤ b from .inr (by have := hF.out b q; have := hg.out; omega))
  have hFr4 := Aside0.mk ((Fr.of_below hB3.out T).thenX hfr4.out hF2.out)
  have hn4 := Aside0.mk ((hfr4.out.ch.block g2 (blk_lt hn3.out) (fun q => by have := hFlt.out g2 q; omega)).trans hn3.out)
  have hx4 := Aside0.mk ((hfr4.out.ch.block g (blk_lt hx3.out) (fun q => by have := hF.out g q; omega)).trans hx3.out)
  obtain ⟨F4, hF4, hrd4⟩ := hrx4.out
  have hz3 : w.heap.size ≤ W3.heap.size := hB3.out.size
  replace hF4 := Aside0.mk (fun b (q : F4 b) => show T b ∨ w.heap.size ≤ b from (hF4 b q).elim (hF2.out b) (fun q => .inr (Nat.le_trans hz3 q)))
  replace hrd4 := Aside0.mk hrd4
  have hT4 : Aside0 (∃ T', (∀ b, T' b → T b ∨ w.heap.size ≤ b) ∧ Tb w4 T' tb ns) := ⟨T, fun b q => .inl q, by
    obtain ⟨Wv, Fv, sm, q⟩ := hrd4.out
    exact q.table⟩
  clear hrx4 hfr4 hcall hwl
  have f0 := blk_frozen hx4.out 0
  have f1 := blk_frozen hx4.out 1
  have c0 := (blk_cell hx4.out 0).trans (show _ = some (Value.string ⟨#[]⟩) from rfl)
  have c1 := (blk_cell hx4.out 1).trans (show _ = some (Value.slice none 0 0) from rfl)
  have n0 := (blk_cell hn4.out 0).trans (show _ = some (Value.string (str nm)) from rfl)
  rcases hres4.out with ⟨hn5, rfl⟩ | ⟨out4, hp4, rfl, hbx4, hol4⟩
  · obtain rfl : res = (([], []), ns, 14) := by rw [← hres.out, hn5]
    clear hn5 hres4 hres
    go_wp2
    have hx8 := blk_put (blk_put hx4.out 0 (.string ⟨#[]⟩) rfl) 1 (.slice none 0 0) rfl
    have z0 := (blk_cell hx8 0).trans (show _ = some (Value.string ⟨#[]⟩) from rfl)
    have z1 := (blk_cell hx8 1).trans (show _ = some (Value.slice none 0 0) from rfl)
    exact bodyPost_ret (v := .tuple #[.agg #[.string (str []), .slice none 0 0], .int .i64 14]) (by simp [results, Tryz.results14, go_sem, z0, z1]) rfl (PPost.of hFr4.out hT4.out (BX.nil _ _) hx4.out (Nat.le_of_eq hg.out) _ _)
  · rw [hp4] at hres
    replace hres := hres.out
    simp only at hres
    have hsz4 := pconds_size _ _ _ _ _ _ _ hp4
    obtain ⟨_, hN4, _⟩ := pconds_words _ _ _ _ _ _ _ hp4
    replace hN4 := Aside0.mk (hN4 hN.out)
    have hrt := Aside0.mk (fun W => right_walk (str nm) (by rw [str_size]; omega) W)
    obtain ⟨A4, c4, rfl⟩ := hbx4.form
    have hbx4' := Aside0.mk (hbx4.base hz3)
    clear hp4 hres4 hbx4
    cases hr : rightName (str nm) with
    | false =>
      rw [hr] at hrt
      obtain rfl : res = (([], []), ns, 14) := by rw [← hres, if_pos hr]
      clear hres hr
      go_wp2_with (go_at_call 35; refine (hrt.out _).mono ?_; rintro e w5 ⟨rfl, hb5⟩; have hx5 := Aside0.mk ((hb5.block _ (blk_lt hx4.out)).trans hx4.out); have f0 := blk_frozen hx5.out 0; have f1 := blk_frozen hx5.out 1; have c0 := (blk_cell hx5.out 0).trans (show _ = some (Value.string ⟨#[]⟩) from rfl); have c1 := (blk_cell hx5.out 1).trans (show _ = some (Value.slice none 0 0) from rfl); replace hb5 := Aside0.mk hb5)
      have hT5 : ∃ T', (∀ b, T' b → T b ∨ w.heap.size ≤ b) ∧ Tb w5 T' tb ns := hT4.out.elim fun T' q => ⟨T', q.1, q.2.below hb5.out⟩
      have hx8 := blk_put (blk_put hx5.out 0 (.string ⟨#[]⟩) rfl) 1 (.slice none 0 0) rfl
      have z0 := (blk_cell hx8 0).trans (show _ = some (Value.string ⟨#[]⟩) from rfl)
      have z1 := (blk_cell hx8 1).trans (show _ = some (Value.slice none 0 0) from rfl)
      exact bodyPost_ret (v := .tuple #[.agg #[.string (str []), .slice none 0 0], .int .i64 14]) (by simp [results, Tryz.results14, go_sem, z0, z1]) rfl (PPost.of (hFr4.out.below' hb5.out) hT5 (BX.nil _ _) hx5.out (Nat.le_of_eq hg.out) _ _)
    | true =>
      rw [hr] at hrt
      rw [if_neg (by rw [hr]; simp)] at hres
      clear hr
      go_upto_region 7 with (go_at_call 35; refine (hrt.out _).mono ?_; rintro e w5 ⟨rfl, hb5⟩; have hn5 := Aside0.mk ((hb5.block _ (blk_lt hn4.out)).trans hn4.out); have hx5 := Aside0.mk ((hb5.block _ (blk_lt hx4.out)).trans hx4.out); replace hb5 := Aside0.mk hb5)
      have m1 := blk_frozen hn5.out 1
      have m2 := (blk_cell hn5.out 1).trans (show _ = some (Value.slice none 0 0) from rfl)
      have hgg : g ≠ g2 := by have := hg2.out; omega
      have hgw : w.heap.size ≤ g2 := by have := hg2.out; have := hg.out; omega
      clear f0 f1 c0 c1 n0
      go_upto_region 8 with fail
      have hn6 := Aside0.mk (show _ = some (Obj.cells #[.string (str nm), .slice A4 out4.length c4] 25 (0, 0)) from blk_put hn5.out 1 (.slice A4 out4.length c4) rfl)
      have hx6 := Aside0.mk (blk_far hx5.out (p := ⟨g2, 1, none⟩) hgg (.slice A4 out4.length c4))
      have hFr6 := Aside0.mk ((hFr4.out.below' hb5.out).set (p := ⟨g2, 1, none⟩) hgw (.slice A4 out4.length c4))
      have hrd6 := Aside0.mk ((hrd4.out.below hb5.out).set hn5.out (by decide) (by decide) (by decide) 1 (.slice A4 out4.length c4))
      have hbx6 := Aside0.mk ((hbx4'.out.below hb5.out).set hn5.out (by decide) 1 (.slice A4 out4.length c4))
      clear m1 m2 hn5 hx5 hn4 hx4 hFr4 hrd4 hbx4' hT4 hb5
      generalize w5.setCell ⟨g2, 1, none⟩ (.slice A4 out4.length c4) = W6 at hn6 hx6 hFr6 hrd6 hbx6 ⊢
      have n0 := (blk_cell hn6.out 0).trans (show _ = some (Value.string (str nm)) from rfl)
      have n1 := (blk_cell hn6.out 1).trans (show _ = some (Value.slice A4 out4.length c4) from rfl)
      obtain ⟨A5, c5, e5, hrep⟩ := hbx6.out.reads
      cases e5
      have hck := Aside0.mk (checked_walk nm hnml out4 A4 c4 W6 _ (by omega) hrep)
      generalize hcv : rchk nm (heldL out4) = cv at hck hres
      clear hrep
      go_upto_region 9 with (go_at_call 36; refine hck.out.mono ?_; rintro e w7 ⟨rfl, hb7⟩; have hn7 := Aside0.mk ((hb7.block _ (blk_lt hn6.out)).trans hn6.out); have hx7 := Aside0.mk ((hb7.block _ (blk_lt hx6.out)).trans hx6.out); replace hb7 := Aside0.mk hb7)
      have hFr7 := Aside0.mk (hFr6.out.below' hb7.out)
      have hrd7 := Aside0.mk (hrd6.out.below hb7.out)
      have hbx7 := Aside0.mk (hbx6.out.below hb7.out)
      clear n0 n1 hn6 hx6 hFr6 hrd6 hbx6 hck hb7
      have f0 := blk_frozen hx7.out 0
      have f1 := blk_frozen hx7.out 1
      have c0 := (blk_cell hx7.out 0).trans (show _ = some (Value.string ⟨#[]⟩) from rfl)
      have c1 := (blk_cell hx7.out 1).trans (show _ = some (Value.slice none 0 0) from rfl)
      by_cases hc0 : cv = 0
      · rw [if_neg (by simpa using hc0)] at hres
        subst hc0
        have hkeep := keep_walk hrd7.out hN4.out (by simp at hle4; omega)
        have hlen4 : (ns ++ fr4).length = ns.length + fr4.length := List.length_append
        rw [hlen4] at hres
        clear hlen4
        by_cases hbig : 4096 < ns.length + fr4.length
        · rw [if_pos hbig] at hres
          rw [decide_eq_false (by omega), if_neg (by omega)] at hkeep
          replace hkeep := Aside0.mk hkeep
          obtain rfl := hres
          replace hcv := Aside0.mk hcv
          go_wp2_with (go_at_call 37; refine hkeep.out.mono ?_; rintro e w8 ⟨rfl, hfr8, T8, hT8, htb8⟩; have hx8' := Aside0.mk ((hfr8.ch.block g (blk_lt hx7.out) (fun q => by have := hT.out g q; have := hg.out; omega)).trans hx7.out); have f0 := blk_frozen hx8'.out 0; have f1 := blk_frozen hx8'.out 1; have c0 := (blk_cell hx8'.out 0).trans (show _ = some (Value.string ⟨#[]⟩) from rfl); have c1 := (blk_cell hx8'.out 1).trans (show _ = some (Value.slice none 0 0) from rfl); replace hfr8 := Aside0.mk hfr8; replace hT8 := Aside0.mk hT8; replace htb8 := Aside0.mk htb8)
          have hFr8 := hFr7.out.thenX hfr8.out (fun b q => .inl q)
          have hsz8 := hFr7.out.ch.size
          have hT9 : ∃ T', (∀ b, T' b → T b ∨ w.heap.size ≤ b) ∧ Tb w8 T' tb ns := ⟨T8, fun b q => (hT8.out b q).imp id (fun q => Nat.le_trans hsz8 q), htb8.out⟩
          have hx8 := blk_put (blk_put hx8'.out 0 (.string ⟨#[]⟩) rfl) 1 (.slice none 0 0) rfl
          have z0 := (blk_cell hx8 0).trans (show _ = some (Value.string ⟨#[]⟩) from rfl)
          have z1 := (blk_cell hx8 1).trans (show _ = some (Value.slice none 0 0) from rfl)
          exact bodyPost_ret (v := .tuple #[.agg #[.string (str []), .slice none 0 0], .int .i64 15]) (by simp [results, Tryz.results14, go_sem, z0, z1]) rfl (PPost.of hFr8 hT9 (BX.nil _ _) hx8'.out (Nat.le_of_eq hg.out) _ _)
        · rw [if_neg hbig] at hres
          rw [decide_eq_true (by omega), if_pos (by omega)] at hkeep
          replace hkeep := Aside0.mk hkeep
          obtain rfl := hres
          replace hcv := Aside0.mk hcv
          go_wp2_with (go_at_call 37; refine hkeep.out.mono ?_; rintro e w8 ⟨rfl, hfr8, T8, hT8, htb8⟩; have hx8' := Aside0.mk ((hfr8.ch.block g (blk_lt hx7.out) (fun q => by have := hT.out g q; have := hg.out; omega)).trans hx7.out); have hn8 := (hfr8.ch.block g2 (blk_lt hn7.out) (fun q => by have := hT.out g2 q; omega)).trans hn7.out; have n0 := (blk_cell hn8 0).trans (show _ = some (Value.string (str nm)) from rfl); have n1 := (blk_cell hn8 1).trans (show _ = some (Value.slice A4 out4.length c4) from rfl); have f0 := blk_frozen hx8'.out 0; have f1 := blk_frozen hx8'.out 1; have c0 := (blk_cell hx8'.out 0).trans (show _ = some (Value.string ⟨#[]⟩) from rfl); have c1 := (blk_cell hx8'.out 1).trans (show _ = some (Value.slice none 0 0) from rfl); replace hfr8 := Aside0.mk hfr8; replace hT8 := Aside0.mk hT8; replace htb8 := Aside0.mk htb8; clear hn8)
          have hFr8 := hFr7.out.thenX hfr8.out (fun b q => .inl q)
          have hsz8 := hFr7.out.ch.size
          have hT9 : ∃ T', (∀ b, T' b → T b ∨ w.heap.size ≤ b) ∧ Tb w8 T' tb (ns ++ fr4) := ⟨T8, fun b q => (hT8.out b q).imp id (fun q => Nat.le_trans hsz8 q), htb8.out⟩
          have hx8 := blk_put (blk_put hx8'.out 0 (.string (str nm)) rfl) 1 (.slice A4 out4.length c4) rfl
          have z0 := (blk_cell hx8 0).trans (show _ = some (Value.string (str nm)) from rfl)
          have z1 := (blk_cell hx8 1).trans (show _ = some (Value.slice A4 out4.length c4) from rfl)
          exact bodyPost_ret (v := .tuple #[.agg #[.string (str nm), .slice A4 out4.length c4], .int .i64 0]) (by simp [results, Tryz.results14, go_sem, z0, z1]) rfl (PPost.of hFr8 hT9 (hbx7.out.fr hfr8.out) hx8'.out (Nat.le_of_eq hg.out) _ _)
      · rw [if_pos (by simpa using hc0)] at hres
        have hv1 : (cv != 0) = true := bne_iff_ne.2 hc0
        obtain rfl := hres
        replace hc0 := Aside0.mk hc0
        replace hcv := Aside0.mk hcv
        have hT9 : Aside0 (∃ T', (∀ b, T' b → T b ∨ w.heap.size ≤ b) ∧ Tb w7 T' tb ns) := ⟨T, fun b q => .inl q, by
          obtain ⟨Wv, Fv, sm, q⟩ := hrd7.out
          exact q.table⟩
        go_wp2
        have hx8 := blk_put (blk_put hx7.out 0 (.string ⟨#[]⟩) rfl) 1 (.slice none 0 0) rfl
        have z0 := (blk_cell hx8 0).trans (show _ = some (Value.string ⟨#[]⟩) from rfl)
        have z1 := (blk_cell hx8 1).trans (show _ = some (Value.slice none 0 0) from rfl)
        exact bodyPost_ret (v := .tuple #[.agg #[.string (str []), .slice none 0 0], .int .i64 cv]) (by simp [results, Tryz.results14, go_sem, z0, z1]) rfl (PPost.of hFr7.out hT9.out (BX.nil _ _) hx7.out (Nat.le_of_eq hg.out) _ _)
end Go.Proofs.YtkbkkceeolclmaaGreatDoor.X
