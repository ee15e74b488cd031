/- The triple of a text: the program's. A term's word, as the program writes it. -/
import Derived.Test.YtkbkkceeolclmaaGreatDoorQ08
import Derived.Test.YtkbkkceeolclmaaGreatDoorQ34
import Derived.Test.YtkbkkceeolclmaaGreatDoorQ09
import Derived.Test.YtkbkkceeolclmaaGreatDoorQ14
import Derived.Test.YtkbkkceeolclmaaGreatDoorQ15
set_option linter.unusedVariables false
set_option linter.unusedSimpArgs false
namespace Go.Proofs.YtkbkkceeolclmaaGreatDoor.X
open Go.RowKit Go.TX Go.Proofs.YtkbkkceeolclmaaGreatDoorW.PrintWords Go.Proofs.YtkbkkceeolclmaaGreatDoorL
abbrev z56 : Obj := .cells #[.int .i64 0, .int .i64 0, .int .i64 0] 56
abbrev o56 (a b c : Int) : Obj := .cells #[.int .i64 a, .int .i64 b, .int .i64 c] 56
theorem ia560 (g : Nat) (w : World) : (Instr.indexAt 56 (.pointer (some ⟨g, 0, none⟩)) (.int .i64 0)).run Tryz.prog w = .ok (.pointer (some ⟨g, 0, none⟩)) w := by kernel_rfl
theorem ia561 (g : Nat) (w : World) : (Instr.indexAt 56 (.pointer (some ⟨g, 0, none⟩)) (.int .i64 1)).run Tryz.prog w = .ok (.pointer (some ⟨g, 1, none⟩)) w := by kernel_rfl
theorem ia562 (g : Nat) (w : World) : (Instr.indexAt 56 (.pointer (some ⟨g, 0, none⟩)) (.int .i64 2)).run Tryz.prog w = .ok (.pointer (some ⟨g, 2, none⟩)) w := by kernel_rfl
theorem ia56q (g : Nat) (q : Nat) (hq : q < 3) (w : World) : (Instr.indexAt 56 (.pointer (some ⟨g, 0, none⟩)) (.int .i64 (q : Int))).run Tryz.prog w = .ok (.pointer (some ⟨g, q, none⟩)) w := by
  match q, hq with
  | 0, _ => exact ia560 g w
  | 1, _ => exact ia561 g w
  | 2, _ => exact ia562 g w
theorem put56 {w : World} {g : Nat} {a b c : Int} (h : w.heap[g]? = some (o56 a b c)) (q : Nat) (hq : q < 3) (v : Int) : (w.setCell ⟨g, q, none⟩ (.int .i64 v)).heap[g]? = some (o56 (put3 q v a b c).1 (put3 q v a b c).2.1 (put3 q v a b c).2.2) := by
  match q, hq with
  | 0, _ => exact blk_put h 0 _ rfl
  | 1, _ => exact blk_put h 1 _ rfl
  | 2, _ => exact blk_put h 2 _ rfl
theorem cell56 {w : World} {g : Nat} {a b c : Int} (h : w.heap[g]? = some (o56 a b c)) (q : Nat) (hq : q < 3) : ∃ v, w.cell? ⟨g, q, none⟩ = some (.int .i64 v) := by
  match q, hq with
  | 0, _ => exact ⟨a, (blk_cell h 0).trans rfl⟩
  | 1, _ => exact ⟨b, (blk_cell h 1).trans rfl⟩
  | 2, _ => exact ⟨c, (blk_cell h 2).trans rfl⟩
theorem WordsAt.call {w W : World} {F G T : Nat → Prop} {V : Value} {ws : List (List UInt8)} (h : WordsAt w (fun b => F b ∨ T b) V ws) (hc : Ch w W F) (hG : ∀ b, G b → F b ∨ w.heap.size ≤ b) : WordsAt W (fun b => G b ∨ T b) V ws := by
  obtain ⟨A, c, h1, h2, h2', h3⟩ := h
  refine ⟨A, c, h1, h2, h2', fun j hj => ?_⟩
  obtain ⟨b, o, e, ⟨cs, hcs⟩, hn, hcell⟩ := h3 j hj
  have hl := blk_lt hcs
  have hbl := hc.block b hl (fun q => hn (.inl q))
  exact ⟨b, o, e, ⟨cs, hbl.trans hcs⟩, fun q => hn (q.elim (fun q => (hG b q).elim .inl (fun q => by omega)) .inr), (World.cell?_of_block hbl).trans hcell⟩
theorem WordsAt.set {w : World} {S : Nat → Prop} {V : Value} {ws : List (List UInt8)} (h : WordsAt w S V ws) {g : Nat} {cs : Array Value} {ty : TypeId} (hg : w.heap[g]? = some (.cells cs ty (0, 0))) (h2 : ty ≠ 9) (j : Nat) (u : Value) : WordsAt (w.setCell ⟨g, j, none⟩ u) S V ws := by
  obtain ⟨A, c, e1, e2, e3, e4⟩ := h
  refine ⟨A, c, e1, e2, e3, fun i hi => ?_⟩
  obtain ⟨b, o, e, ⟨cs2, hcs⟩, hn, hcell⟩ := e4 i hi
  have hbl : (w.setCell ⟨g, j, none⟩ u).heap[b]? = w.heap[b]? := Below.heap_setCell _ _ _ _ (ne_type hcs hg (Ne.symm h2))
  exact ⟨b, o, e, ⟨cs2, hbl.trans hcs⟩, hn, (World.cell?_of_block hbl).trans hcell⟩
/-- What a reading of a triple leaves. -/
def TPost (w : World) (T : Nat → Prop) (tb : Nat) (res : (Int × Int × Int) × List (List UInt8) × Int) (e : Ending) (W : World) : Prop :=
  e = .returned (.tuple #[.agg #[.int .i64 res.1.1, .int .i64 res.1.2.1, .int .i64 res.1.2.2], .int .i64 res.2.2]) ∧ Fr w W T ∧ ∃ T', (∀ b, T' b → T b ∨ w.heap.size ≤ b) ∧ Tb W T' tb res.2.1
theorem TPost.of {w W : World} {T : Nat → Prop} {tb : Nat} {ns : List (List UInt8)} {a b c code : Int} (hFr : Fr w W T) (hT : ∃ T', (∀ b, T' b → T b ∨ w.heap.size ≤ b) ∧ Tb W T' tb ns) {g : Nat} {x y z : Int} (hx : W.heap[g]? = some (o56 x y z)) (hg : w.heap.size ≤ g) :
    TPost w T tb ((a, b, c), ns, code) (.returned (.tuple #[.agg #[.int .i64 a, .int .i64 b, .int .i64 c], .int .i64 code])) (((W.setCell ⟨g, 0, none⟩ (.int .i64 a)).setCell ⟨g, 1, none⟩ (.int .i64 b)).setCell ⟨g, 2, none⟩ (.int .i64 c)) := by
  obtain ⟨T', h1, h2⟩ := hT
  refine ⟨rfl, ((hFr.set (p := ⟨g, 0, none⟩) hg _).set (p := ⟨g, 1, none⟩) hg _).set (p := ⟨g, 2, none⟩) hg _, T', h1, ?_⟩
  have x1 := blk_put hx 0 (.int .i64 a) rfl
  have x2 := blk_put x1 1 (.int .i64 b) rfl
  exact ((h2.set hx (by decide) (by decide) 0 _).set x1 (by decide) (by decide) 1 _).set x2 (by decide) (by decide) 2 _
set_option maxRecDepth 100000 in
set_option maxHeartbeats 4000000 in
theorem tparse_walk {w : World} {T : Nat → Prop} {tb : Nat} {ns : List (List UInt8)} (h : Tb w T tb ns) (hT : ∀ b, T b → b < w.heap.size) (hN : Names ns) (hnl : ns.length ≤ 5000) (hE : Env w) (s : List UInt8) (hs : s.length ≤ 5000) :
    Calls Tryz.prog 22 #[.string (str s), .pointer (some ⟨tb, 0, none⟩)] w (TPost w T tb (tparse ns s)) := by
  have hwb := words_bound s
  have hB0 := Aside0.mk ((Below.refl w.heap.size w).alloc (Nat.le_refl _) z56)
  have hx0 := Aside0.mk (blk_new w z56)
  have hT0 := Aside0.mk (h.below hB0.out)
  have hz0 := Aside0.mk (show (w.alloc z56).heap.size = w.heap.size + 1 by simp)
  have hread := Aside0.mk (read_walk (w := w.alloc z56) hT0.out (fun b q => Nat.lt_of_lt_of_le (hT b q) hB0.out.size) (hE.below hB0.out) s (by omega) (by omega))
  obtain ⟨⟨⟨ra, rb, rc⟩, rns, rcode⟩, hres⟩ : ∃ q, tparse ns s = q := ⟨_, rfl⟩
  rw [hres]
  have hwl := Aside0.mk (fun (x : List UInt8) (hx : x ∈ words s) => show x.length ≤ 5000 by have := hwb.2 x hx; omega)
  have hw1 : (words s).length ≤ 5001 := by have := hwb.1; omega
  have hthree := Aside0.mk (fun x y z (e : words s = [x, y, z]) => tparse_three (ns := ns) e)
  have hnot := Aside0.mk (tparse_not (ns := ns) (s := s))
  rw [hres] at hthree hnot
  generalize words s = ws at hread hwl hw1 hthree hnot
  clear h hwb hres
  replace hN := Aside0.mk hN
  replace hT := Aside0.mk hT
  replace hE := Aside0.mk hE
  go_enter Tryz.func22, Tryz.ntmps22
  go_upto_region 1 with fail
  generalize w.alloc z56 = W0 at hB0 hx0 hT0 hz0 hread ⊢
  generalize hg : w.heap.size = g at hx0 hz0 ⊢
  replace hg := Aside0.mk hg
  go_upto_region 2 with (go_at_call 33; refine hread.out.mono ?_; rintro e w1 ⟨r, rfl, hb1, F, hF, hrd1⟩; replace hb1 := Aside0.mk hb1; replace hrd1 := Aside0.mk hrd1; replace hF := Aside0.mk (fun b (q : F b) => show g < b by have := hF b q; have := hz0.out; omega))
  have hA2 := (Below.refl w1.heap.size w1).alloc (Nat.le_refl _) z56
  have hn2 := Aside0.mk (blk_new w1 z56)
  have hrd2 := Aside0.mk (hrd1.out.below hA2)
  have hx2 := Aside0.mk ((hA2.block _ (blk_lt ((hb1.out.block g (blk_lt hx0.out)).trans hx0.out))).trans ((hb1.out.block g (blk_lt hx0.out)).trans hx0.out))
  have hB2 := Aside0.mk ((hB0.out.trans (hb1.out.mono hB0.out.size)).trans (hA2.mono (Nat.le_trans hB0.out.size hb1.out.size)))
  have hFlt := Aside0.mk hrd1.out.flt
  have hg2 := Aside0.mk (show g + 1 ≤ w1.heap.size by have := hb1.out.size; have := hz0.out; omega)
  go_upto_region 3 with fail
  clear hrd1 hA2 hx0 hT0 hread hb1 hB0
  generalize w1.alloc z56 = W2 at hn2 hrd2 hx2 hB2 ⊢
  generalize w1.heap.size = g2 at hn2 hg2 hFlt ⊢
  clear hz0
  clear w1 W0
  have hTT : Aside0 (∃ T', (∀ b, T' b → T b ∨ w.heap.size ≤ b) ∧ Tb W2 T' tb ns) := ⟨T, fun b q => .inl q, by
    obtain ⟨Wv, Fv, sm, q⟩ := hrd2.out
    exact q.table⟩
  obtain ⟨A, cap, p, f, mm, hh, hws⟩ := hrd2.out.words
  have r0 := (blk_cell hh 0).trans (show _ = some (Value.slice A ws.length cap) from rfl)
  clear hh
  replace hws := Aside0.mk hws
  by_cases h3 : ws.length = 3
  · obtain ⟨x, y, z, rfl⟩ := three_of h3
    clear h3
    replace hthree := Aside0.mk (hthree.out x y z rfl)
    obtain ⟨bw, o, hA⟩ : ∃ bw o, A = some ⟨bw, o, none⟩ := by
      obtain ⟨A1, c1, e, _, _, h4⟩ := hws.out
      cases e
      obtain ⟨b, o, e, _⟩ := h4 0 (by simp)
      exact ⟨b, o, e⟩
    subst hA
    replace hws : Aside0 (WordsAt W2 (fun b => F b ∨ T b) (.slice (some ⟨bw, o, none⟩) 3 cap) [x, y, z]) := hws
    replace r0 : W2.cell? ⟨r, 0, none⟩ = some (.slice (some ⟨bw, o, none⟩) 3 cap) := r0
    have hFr2 := Aside0.mk (Fr.of_below hB2.out T)
    clear hnot
    go_upto_region 6 with fail
    clear r0
    go_loopw [27] (fun i wr => ∃ (q : Nat) (fr : List (List UInt8)) (F' : Nat → Prop) (a b c : Int), i = .int .i64 q ∧ q ≤ 3 ∧ Fr w wr T ∧ (∀ b, F' b → g < b ∧ b ≠ g2) ∧ RdE wr T F' r tb [x, y, z] ns fr ∧ St ns x y z q (ns ++ fr) a b c ∧ WordsAt wr (fun b => F' b ∨ T b) (.slice (some ⟨bw, o, none⟩) 3 cap) [x, y, z] ∧ wr.heap[g]? = some z56 ∧ wr.heap[g2]? = some (o56 a b c)) (fun i _ => 3 - (intOf i).toNat)
    case atStart => exact ⟨0, [], F, 0, 0, 0, rfl, Nat.zero_le _, hFr2.out, fun b q => ⟨hF.out b q, fun e => by have := hFlt.out b q; omega⟩, hrd2.out, by rw [List.append_nil]; rfl, hws.out, hx2.out, hn2.out⟩
    case round =>
      obtain ⟨q, fr, F', a, b, c, rfl, hq, hFr, hF', hrd, hst, hwd, hx, hn⟩ := hrel
      clear hx2 hn2 hrd2 hws hFr2 hB2 hTT hF hFlt
      have hnm := Aside0.mk (hst.names hN.out)
      have hlen : ns.length + fr.length ≤ 5003 := by have := hnm.out.2; rw [List.length_append] at this; omega
      replace hFr := Aside0.mk hFr
      replace hF' := Aside0.mk hF'
      replace hrd := Aside0.mk hrd
      replace hst := Aside0.mk hst
      replace hwd := Aside0.mk hwd
      replace hx := Aside0.mk hx
      replace hn := Aside0.mk hn
      clear W2
      by_cases hlt : q < 3
      · obtain ⟨s1, hs1, hcell⟩ : ∃ s1, [x, y, z][q]? = some s1 ∧ wr.cell? ⟨bw, o + q, none⟩ = some (.string (str s1)) := by
          obtain ⟨A1, c1, e, _, _, h4⟩ := hwd.out
          cases e
          obtain ⟨b, o, e, _, _, h5⟩ := h4 q hlt
          cases e
          exact ⟨_, List.getElem?_eq_getElem hlt, h5⟩
        have hs1l : s1.length ≤ 5000 := hwl.out s1 (List.mem_of_getElem? hs1)
        replace hs1 := Aside0.mk hs1
        have hcall := symr_walk hrd.out s1 (by omega) (by omega)
        cases hr : rightName (str s1) with
        | false =>
          have hbad := tpar3_wrong (ns := ns) hs1.out hr
          rw [hr] at hcall
          simp only [Bool.false_eq_true, if_false] at hcall
          replace hcall := Aside0.mk hcall
          have he := hthree.out.trans hbad
          simp only [Prod.mk.injEq] at he
          obtain ⟨⟨rfl, rfl, rfl⟩, rfl, rfl⟩ := he
          clear hbad hr
          go_wp2_with (go_at_call 44; refine hcall.out.mono ?_; rintro e w3 ⟨rfl, hfr3, hrx3⟩; have hx3 := Aside0.mk ((hfr3.ch.block g (blk_lt hx.out) (fun q => by have := (hF'.out g q).1; omega)).trans hx.out); have f0 := blk_frozen hx3.out 0; have f1 := blk_frozen hx3.out 1; have f2 := blk_frozen hx3.out 2; have c0 := (blk_cell hx3.out 0).trans (show _ = some (Value.int .i64 0) from rfl); have c1 := (blk_cell hx3.out 1).trans (show _ = some (Value.int .i64 0) from rfl); have c2 := (blk_cell hx3.out 2).trans (show _ = some (Value.int .i64 0) from rfl); replace hfr3 := Aside0.mk hfr3; replace hrx3 := Aside0.mk hrx3)
          have hx8 := blk_put (blk_put (blk_put hx3.out 0 (.int .i64 0) rfl) 1 (.int .i64 0) rfl) 2 (.int .i64 0) rfl
          have z0 := (blk_cell hx8 0).trans (show _ = some (Value.int .i64 0) from rfl)
          have z1 := (blk_cell hx8 1).trans (show _ = some (Value.int .i64 0) from rfl)
          have z2 := (blk_cell hx8 2).trans (show _ = some (Value.int .i64 0) from rfl)
          obtain ⟨F3, hF3, Wv, Fv, sm, hrd3⟩ := hrx3.out
          exact bodyPost_ret (v := .tuple #[.agg #[.int .i64 0, .int .i64 0, .int .i64 0], .int .i64 14]) (by simp [results, Tryz.results22, go_sem, z0, z1, z2]) rfl (TPost.of (hFr.out.thenX hfr3.out (fun b q => .inr (by have := (hF'.out b q).1; have := hg.out; omega))) ⟨T, fun b q => .inl q, hrd3.table⟩ hx3.out (Nat.le_of_eq hg.out))
        | true =>
          have hst2 := hst.out.step hlt hs1.out hr
          rw [hr] at hcall
          simp only [if_true] at hcall
          rw [← fresh_all] at hst2 hcall
          replace hcall := Aside0.mk hcall
          replace hst2 := Aside0.mk hst2
          generalize ((findN (ns ++ freshN ns fr s1) s1 : Nat) : Int) = v at hcall hst2
          generalize freshN ns fr s1 = fr1 at hcall hst2
          have hia := fun w => ia56q g2 q hlt w
          clear hr
          go_wp2_with (go_at_call 44; refine hcall.out.mono ?_; rintro e w3 ⟨rfl, hfr3, hrx3⟩; have hx3 := Aside0.mk ((hfr3.ch.block g (blk_lt hx.out) (fun q => by have := (hF'.out g q).1; omega)).trans hx.out); have hn3 := Aside0.mk ((hfr3.ch.block g2 (blk_lt hn.out) (fun q => (hF'.out g2 q).2 rfl)).trans hn.out); have fq := blk_frozen hn3.out q; obtain ⟨uq, cq⟩ := cell56 hn3.out q hlt; replace hfr3 := Aside0.mk hfr3; replace hrx3 := Aside0.mk hrx3)
          go_roundw
          case rel =>
            obtain ⟨F3, hF3, hrd3⟩ := hrx3.out
            have hs3 := hfr3.out.ch.size
            have hgl := blk_lt hx.out
            have hnl2 := blk_lt hn.out
            refine ⟨q + 1, fr1, F3, _, _, _, by go_num, by omega, (hFr.out.thenX hfr3.out (fun b q => .inr (by have := (hF'.out b q).1; have := hg.out; omega))).set (p := ⟨g2, q, none⟩) (by have := hg2.out; have := hg.out; show w.heap.size ≤ g2; omega) _, fun b qb => (hF3 b qb).elim (hF'.out b) (fun h => ⟨by omega, by omega⟩), hrd3.set hn3.out (by decide) (by decide) (by decide) q _, hst2.out, (hwd.out.call hfr3.out.ch hF3).set hn3.out (by decide) q _, ?_, put56 hn3.out q hlt v⟩
            exact (Below.heap_setCell _ _ _ _ (show g ≠ g2 by have := hg2.out; omega)).trans hx3.out
          case measure => simp [intOf]; omega
      · obtain rfl : q = 3 := by omega
        have hend := hthree.out.trans (tpar3_end hst.out)
        have hkeep := keep_walk hrd.out hnm.out.1 (by omega)
        have hgT : ¬ T g := fun q => by have := hT.out g q; have := hg.out; omega
        have hgT2 : ¬ T g2 := fun q => by have := hT.out g2 q; have := hg.out; have := hg2.out; omega
        have hzr := hFr.out.ch.size
        rw [← List.length_append] at hkeep hlen
        generalize ns ++ fr = now at hkeep hend hlen
        by_cases h4 : 4096 < now.length
        · rw [if_pos h4] at hend
          rw [if_neg (by omega), decide_eq_false (by omega)] at hkeep
          simp only [Prod.mk.injEq] at hend
          obtain ⟨⟨rfl, rfl, rfl⟩, rfl, rfl⟩ := hend
          replace hkeep := Aside0.mk hkeep
          clear h4
          go_wp2_with (go_at_call 37; refine hkeep.out.mono ?_; rintro e w3 ⟨rfl, hfr3, T3, hT3, htb3⟩; have hx3 := Aside0.mk ((hfr3.ch.block g (blk_lt hx.out) hgT).trans hx.out); have f0 := blk_frozen hx3.out 0; have f1 := blk_frozen hx3.out 1; have f2 := blk_frozen hx3.out 2; have c0 := (blk_cell hx3.out 0).trans (show _ = some (Value.int .i64 0) from rfl); have c1 := (blk_cell hx3.out 1).trans (show _ = some (Value.int .i64 0) from rfl); have c2 := (blk_cell hx3.out 2).trans (show _ = some (Value.int .i64 0) from rfl); replace hfr3 := Aside0.mk hfr3; replace hT3 := Aside0.mk hT3; replace htb3 := Aside0.mk htb3)
          have hx8 := blk_put (blk_put (blk_put hx3.out 0 (.int .i64 0) rfl) 1 (.int .i64 0) rfl) 2 (.int .i64 0) rfl
          have z0 := (blk_cell hx8 0).trans (show _ = some (Value.int .i64 0) from rfl)
          have z1 := (blk_cell hx8 1).trans (show _ = some (Value.int .i64 0) from rfl)
          have z2 := (blk_cell hx8 2).trans (show _ = some (Value.int .i64 0) from rfl)
          exact bodyPost_ret (v := .tuple #[.agg #[.int .i64 0, .int .i64 0, .int .i64 0], .int .i64 15]) (by simp [results, Tryz.results22, go_sem, z0, z1, z2]) rfl (TPost.of (hFr.out.thenX hfr3.out (fun b q => .inl q)) ⟨T3, fun b q => (hT3.out b q).imp id (fun q => Nat.le_trans hzr q), htb3.out⟩ hx3.out (Nat.le_of_eq hg.out))
        · rw [if_neg h4] at hend
          rw [if_pos (by omega), decide_eq_true (by omega)] at hkeep
          simp only [Prod.mk.injEq] at hend
          obtain ⟨⟨rfl, rfl, rfl⟩, rfl, rfl⟩ := hend
          replace hkeep := Aside0.mk hkeep
          clear h4
          go_wp2_with (go_at_call 37; refine hkeep.out.mono ?_; rintro e w3 ⟨rfl, hfr3, T3, hT3, htb3⟩; have hx3 := Aside0.mk ((hfr3.ch.block g (blk_lt hx.out) hgT).trans hx.out); have hn3 := (hfr3.ch.block g2 (blk_lt hn.out) hgT2).trans hn.out; have n0 := (blk_cell hn3 0).trans (show _ = some (Value.int .i64 ra) from rfl); have n1 := (blk_cell hn3 1).trans (show _ = some (Value.int .i64 rb) from rfl); have n2 := (blk_cell hn3 2).trans (show _ = some (Value.int .i64 rc) from rfl); have f0 := blk_frozen hx3.out 0; have f1 := blk_frozen hx3.out 1; have f2 := blk_frozen hx3.out 2; have c0 := (blk_cell hx3.out 0).trans (show _ = some (Value.int .i64 0) from rfl); have c1 := (blk_cell hx3.out 1).trans (show _ = some (Value.int .i64 0) from rfl); have c2 := (blk_cell hx3.out 2).trans (show _ = some (Value.int .i64 0) from rfl); clear hn3; replace hfr3 := Aside0.mk hfr3; replace hT3 := Aside0.mk hT3; replace htb3 := Aside0.mk htb3)
          have hx8 := blk_put (blk_put (blk_put hx3.out 0 (.int .i64 ra) rfl) 1 (.int .i64 rb) rfl) 2 (.int .i64 rc) rfl
          have z0 := (blk_cell hx8 0).trans (show _ = some (Value.int .i64 ra) from rfl)
          have z1 := (blk_cell hx8 1).trans (show _ = some (Value.int .i64 rb) from rfl)
          have z2 := (blk_cell hx8 2).trans (show _ = some (Value.int .i64 rc) from rfl)
          exact bodyPost_ret (v := .tuple #[.agg #[.int .i64 ra, .int .i64 rb, .int .i64 rc], .int .i64 0]) (by simp [results, Tryz.results22, go_sem, z0, z1, z2]) rfl (TPost.of (hFr.out.thenX hfr3.out (fun b q => .inl q)) ⟨T3, fun b q => (hT3.out b q).imp id (fun q => Nat.le_trans hzr q), htb3.out⟩ hx3.out (Nat.le_of_eq hg.out))
  · have hne : ((ws.length : Int) != 3) = true := by simp; omega
    have := hnot.out h3
    simp only [Prod.mk.injEq] at this
    obtain ⟨⟨rfl, rfl, rfl⟩, rfl, rfl⟩ := this
    have f0 := blk_frozen hx2.out 0
    have f1 := blk_frozen hx2.out 1
    have f2 := blk_frozen hx2.out 2
    have c0 := (blk_cell hx2.out 0).trans (show _ = some (Value.int .i64 0) from rfl)
    have c1 := (blk_cell hx2.out 1).trans (show _ = some (Value.int .i64 0) from rfl)
    have c2 := (blk_cell hx2.out 2).trans (show _ = some (Value.int .i64 0) from rfl)
    clear h3 hnot hthree
    go_wp2
    have hx8 := blk_put (blk_put (blk_put hx2.out 0 (.int .i64 0) rfl) 1 (.int .i64 0) rfl) 2 (.int .i64 0) rfl
    have z0 := (blk_cell hx8 0).trans (show _ = some (Value.int .i64 0) from rfl)
    have z1 := (blk_cell hx8 1).trans (show _ = some (Value.int .i64 0) from rfl)
    have z2 := (blk_cell hx8 2).trans (show _ = some (Value.int .i64 0) from rfl)
    exact bodyPost_ret (v := .tuple #[.agg #[.int .i64 0, .int .i64 0, .int .i64 0], .int .i64 14]) (by simp [results, Tryz.results22, go_sem, z0, z1, z2]) rfl (TPost.of (Fr.of_below hB2.out T) hTT.out hx2.out (Nat.le_of_eq hg.out))
end Go.Proofs.YtkbkkceeolclmaaGreatDoor.X
namespace Go.Proofs.YtkbkkceeolclmaaGreatDoor.X
open Go.RowKit Go.TX Go.Proofs.YtkbkkceeolclmaaGreatDoorW.PrintWords Go.Proofs.YtkbkkceeolclmaaGreatDoorL
theorem tword_sym (ns : List (List UInt8)) (n : Int) : tword ns (false, n) = nameN ns n := by
  unfold tword nameN
  simp
set_option maxRecDepth 100000 in
set_option maxHeartbeats 1000000 in
theorem word_walk (t : Tm) (ht : tmRight t = true) {w : World} {F : Nat → Prop} {tb : Nat} {ns : List (List UInt8)} (h : Tb w F tb ns) (hlen : ns.length ≤ 1000000) (hE : Env w) :
    Calls Tryz.prog 54 #[.agg #[.bool t.1, .int .i64 t.2], .pointer (some ⟨tb, 0, none⟩)] w fun e W => e = .returned (.tuple #[.string (str ((tword ns t).getD [])), .bool (tword ns t).isSome]) ∧ Below w.heap.size w W := by
  have hs := tm_small ht
  clear ht
  obtain ⟨b, n⟩ := t
  simp only at hs
  have hB0 := Aside0.mk ((Below.refl w.heap.size w).alloc (Nat.le_refl _) (.cells #[.bool b, .int .i64 n] 69))
  have hT := h.below hB0.out
  have hEw := hE.below hB0.out
  have hx := blk_new w (.cells #[.bool b, .int .i64 n] 69)
  generalize hW : w.alloc (.cells #[.bool b, .int .i64 n] 69) = W at hB0 hT hEw hx
  have x0 := (blk_cell hx 0).trans (show _ = some (Value.bool b) from rfl)
  have x1 := (blk_cell hx 1).trans (show _ = some (Value.int .i64 n) from rfl)
  cases b with
  | true =>
    have hcall := Aside0.mk (itoa_any n (by omega) (by omega) W hEw)
    have hl := dd_len (n := n.toNat) (by omega)
    rw [← str_size] at hl
    have e : str ((tword ns (true, n)).getD []) = ⟨#[63]⟩ ++ str (Lib.decDigits n.toNat) := by
      unfold tword
      simp
      apply ByteArray.ext
      simp [str]
    have e2 : (tword ns (true, n)).isSome = true := by unfold tword; simp
    rw [e, e2]
    clear e e2
    generalize str (Lib.decDigits n.toNat) = sd at hcall hl ⊢
    go_enter Tryz.func54, Tryz.ntmps54
    go_upto_region 1 with fail
    go_wp2_with (go_at_call 75; refine hcall.out.mono ?_; rintro e w2 ⟨rfl, hb⟩; replace hb := Aside0.mk hb)
    go_ret2
    exact ⟨rfl, hB0.out.trans (hb.out.mono hB0.out.size)⟩
  | false =>
    have hcall := Aside0.mk (name_walk hT n hlen (by omega) (by omega))
    rw [tword_sym]
    generalize nameN ns n = o at hcall ⊢
    go_enter Tryz.func54, Tryz.ntmps54
    go_upto_region 1 with fail
    go_wp2_with (go_at_call 39; refine hcall.out.mono ?_; rintro e w2 ⟨rfl, rfl⟩)
    go_ret2
    exact ⟨rfl, hB0.out⟩
end Go.Proofs.YtkbkkceeolclmaaGreatDoor.X
