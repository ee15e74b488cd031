/- The document's triples: right ones; the triple of a text. A rule's text, as the program writes it. -/
import Derived.Test.YtkbkkceeolclmaaGreatDoorQ36
import Derived.Test.YtkbkkceeolclmaaGreatDoorQ35
import Derived.Test.YtkbkkceeolclmaaGreatDoorQ38
set_option linter.unusedVariables false
set_option linter.unusedSimpArgs false
namespace Go.Proofs.YtkbkkceeolclmaaGreatDoor.X
open Go.RowKit Go.TX Go.Proofs.YtkbkkceeolclmaaGreatDoorW.PrintWords Go.Proofs.YtkbkkceeolclmaaGreatDoorL
abbrev z55 : Obj := .cells #[.int .i64 0, .int .i64 0, .int .i64 0] 55
abbrev o55 (a b c : Int) : Obj := .cells #[.int .i64 a, .int .i64 b, .int .i64 c] 55
theorem ia550 (g : Nat) (w : World) : (Instr.indexAt 55 (.pointer (some ⟨g, 0, none⟩)) (.int .i64 0)).run Tryz.prog w = .ok (.pointer (some ⟨g, 0, none⟩)) w := by kernel_rfl
theorem ia551 (g : Nat) (w : World) : (Instr.indexAt 55 (.pointer (some ⟨g, 0, none⟩)) (.int .i64 1)).run Tryz.prog w = .ok (.pointer (some ⟨g, 1, none⟩)) w := by kernel_rfl
theorem ia552 (g : Nat) (w : World) : (Instr.indexAt 55 (.pointer (some ⟨g, 0, none⟩)) (.int .i64 2)).run Tryz.prog w = .ok (.pointer (some ⟨g, 2, none⟩)) w := by kernel_rfl
theorem ia55q (g : Nat) (q : Nat) (hq : q < 3) (w : World) : (Instr.indexAt 55 (.pointer (some ⟨g, 0, none⟩)) (.int .i64 (q : Int))).run Tryz.prog w = .ok (.pointer (some ⟨g, q, none⟩)) w := by
  match q, hq with
  | 0, _ => exact ia550 g w
  | 1, _ => exact ia551 g w
  | 2, _ => exact ia552 g w
theorem put55 {w : World} {g : Nat} {a b c : Int} (h : w.heap[g]? = some (o55 a b c)) (q : Nat) (hq : q < 3) (v : Int) : (w.setCell ⟨g, q, none⟩ (.int .i64 v)).heap[g]? = some (o55 (put3 q v a b c).1 (put3 q v a b c).2.1 (put3 q v a b c).2.2) := by
  match q, hq with
  | 0, _ => exact blk_put h 0 _ rfl
  | 1, _ => exact blk_put h 1 _ rfl
  | 2, _ => exact blk_put h 2 _ rfl
theorem cell55 {w : World} {g : Nat} {a b c : Int} (h : w.heap[g]? = some (o55 a b c)) (q : Nat) (hq : q < 3) : ∃ n, [a, b, c][q]? = some n ∧ w.cell? ⟨g, q, none⟩ = some (.int .i64 n) := by
  match q, hq with
  | 0, _ => exact ⟨a, rfl, (blk_cell h 0).trans rfl⟩
  | 1, _ => exact ⟨b, rfl, (blk_cell h 1).trans rfl⟩
  | 2, _ => exact ⟨c, rfl, (blk_cell h 2).trans rfl⟩
/-- What the document's reading of a triple leaves. -/
def RTPost (P : Nat → Prop) (w : World) (res : (Int × Int × Int) × List (List UInt8) × Int) (e : Ending) (W : World) : Prop :=
  ∃ u, e = .returned (.tuple #[.agg #[.int .i64 res.1.1, .int .i64 res.1.2.1, .int .i64 res.1.2.2], u, .int .i64 res.2.2]) ∧ DN 0 (fun b => P b ∨ w.heap.size ≤ b) W u res.2.1 ∧ Below w.heap.size w W
theorem RTPost.of {P : Nat → Prop} {w W : World} {u : Value} {ns : List (List UInt8)} {a b c code : Int} (hB : Below w.heap.size w W) (hR : DN 0 (fun b => P b ∨ w.heap.size ≤ b) W u ns) {g : Nat} {x y z : Int} (hx : W.heap[g]? = some (o55 x y z)) (hg : w.heap.size ≤ g) :
    RTPost P w ((a, b, c), ns, code) (.returned (.tuple #[.agg #[.int .i64 a, .int .i64 b, .int .i64 c], u, .int .i64 code])) (((W.setCell ⟨g, 0, none⟩ (.int .i64 a)).setCell ⟨g, 1, none⟩ (.int .i64 b)).setCell ⟨g, 2, none⟩ (.int .i64 c)) := by
  have x1 := blk_put hx 0 (.int .i64 a) rfl
  have x2 := blk_put x1 1 (.int .i64 b) rfl
  exact ⟨u, rfl, ((hR.set hx (by decide) 0 _).set x1 (by decide) 1 _).set x2 (by decide) 2 _, ((hB.setCell (p := ⟨g, 0, none⟩) hg _).setCell (p := ⟨g, 1, none⟩) hg _).setCell (p := ⟨g, 2, none⟩) hg _⟩
set_option maxRecDepth 100000 in
set_option maxHeartbeats 4000000 in
theorem rtparse_walk {P : Nat → Prop} {w : World} {v : Value} {ns : List (List UInt8)} (h : DN 0 P w v ns) (hnl : ns.length ≤ 5000) (s : List UInt8) (hs : s.length ≤ 1000) :
    Calls Tryz.prog 23 #[.string (str s), v] w (RTPost P w (tparse ns s)) := by
  have hB0 := Aside0.mk ((Below.refl w.heap.size w).alloc (Nat.le_refl _) z55)
  have hx0 := Aside0.mk (blk_new w z55)
  have hR0 := Aside0.mk (h.below hB0.out)
  have hz0 := Aside0.mk (show (w.alloc z55).heap.size = w.heap.size + 1 by simp)
  have hwords := Aside0.mk (fun W => refWords_any (str s) (by rw [str_size]; omega) W)
  have hwb := words_bound s
  obtain ⟨⟨⟨ra, rb, rc⟩, rns, rcode⟩, hres⟩ : ∃ q, tparse ns s = q := ⟨_, rfl⟩
  rw [hres]
  have hpc : pieces (str s) = (words s).map str := rfl
  have hwl := Aside0.mk (fun (x : List UInt8) (hx : x ∈ words s) => show x.length ≤ 1000 by have := hwb.2 x hx; omega)
  have hw1 : (words s).length ≤ 1001 := by have := hwb.1; omega
  have hthree := Aside0.mk (fun x y z (e : words s = [x, y, z]) => tparse_three (ns := ns) e)
  have hnot := Aside0.mk (tparse_not (ns := ns) (s := s))
  rw [hres] at hthree hnot
  unfold WordsPost at hwords
  rw [hpc] at hwords
  generalize words s = ws at hwords hwl hw1 hthree hnot
  clear h hwb hres hpc
  go_enter Tryz.func23, Tryz.ntmps23
  go_upto_region 1 with fail
  generalize w.alloc z55 = W0 at hB0 hx0 hR0 hz0 ⊢
  generalize hg : w.heap.size = g at hx0 hz0 ⊢
  replace hg := Aside0.mk hg
  go_upto_region 2 with (go_at_call 40; refine (hwords.out _).mono ?_; rintro e W1 ⟨vw, rfl, hw, hb1⟩; replace hw : DN W0.heap.size (fun _ => True) W1 vw ws := hw; replace hw := Aside0.mk (RN.of hw); replace hb1 := Aside0.mk hb1)
  have hB1 := Aside0.mk (hB0.out.trans (hb1.out.mono hB0.out.size))
  have hx1 := Aside0.mk ((hb1.out.block g (blk_lt hx0.out)).trans hx0.out)
  have hR1 := Aside0.mk (hR0.out.below hb1.out)
  have hz1 := Aside0.mk (show g + 1 ≤ W1.heap.size by have := hb1.out.size; have := hz0.out; omega)
  clear hx0 hR0 hz0 hB0 hb1
  obtain ⟨Aw, cw, rfl, hcw, hCw⟩ := hw.out.reads
  replace hCw := Aside0.mk hCw
  by_cases h3 : ws.length = 3
  · obtain ⟨x, y, z, rfl⟩ := three_of h3
    clear h3
    replace hthree := Aside0.mk (hthree.out x y z rfl)
    replace hw : Aside0 (RN W1 (.slice Aw 3 cw) [x, y, z]) := hw
    replace hcw : 3 ≤ cw := hcw
    obtain ⟨bw, o, hA, hbw, hcells⟩ : ∃ bw o, Aw = some ⟨bw, o, none⟩ ∧ bw < W1.heap.size ∧ ∀ j (hj : j < 3), W1.cell? ⟨bw, o + j, none⟩ = some (.string (str ([x, y, z][j]'hj))) := by
      obtain ⟨b, o, e, hl, _⟩ := kds_at hCw.out (j := 0) (by simp)
      refine ⟨b, o, e, hl, fun j hj => ?_⟩
      obtain ⟨b', o', e', _, hc⟩ := kds_at hCw.out (j := j) hj
      rw [e] at e'
      cases e'
      exact hc
    subst hA
    replace hcells := Aside0.mk hcells
    replace hbw := Aside0.mk hbw
    have e3 : ([x, y, z] : List (List UInt8)).length = 3 := rfl
    rw [e3]
    clear e3
    clear hnot hCw hw
    have hA2 := Aside0.mk ((Below.refl W1.heap.size W1).alloc (Nat.le_refl _) z55)
    have hn2 := Aside0.mk (blk_new W1 z55)
    go_upto_region 7 with fail
    generalize W1.alloc z55 = W2 at hA2 hn2 ⊢
    generalize hg2 : W1.heap.size = g2 at hn2 ⊢
    replace hg2 := Aside0.mk hg2
    go_loopw [10, 9] (fun i V wr => ∃ (q : Nat) (now : List (List UInt8)) (a b c : Int), i = .int .i64 q ∧ q ≤ 3 ∧ Below W1.heap.size W1 wr ∧ DN 0 (fun b => P b ∨ w.heap.size ≤ b) wr V now ∧ St ns x y z q now a b c ∧ wr.heap[g2]? = some (o55 a b c)) (fun i _ _ => 3 - (intOf i).toNat)
    case atStart => exact ⟨0, ns, 0, 0, 0, rfl, Nat.zero_le _, hA2.out, (hR1.out.below hA2.out).mono fun _ q => .inl q, rfl, hn2.out⟩
    case round =>
      obtain ⟨q, now, a, b, c, rfl, hq, hBr, hRr, hst, hn⟩ := hrel
      clear hA2 hn2
      clear W2
      obtain ⟨Av, cv, rfl, hcv, hCv⟩ := DN.reads hRr
      have hlen := hst.len
      have hx := Aside0.mk ((hBr.block g (blk_lt hx1.out)).trans hx1.out)
      have hRv := Aside0.mk (hR1.out.below hBr)
      have hB := Aside0.mk (hB1.out.trans (hBr.mono hB1.out.size))
      replace hBr := Aside0.mk hBr
      replace hRr := Aside0.mk hRr
      replace hst := Aside0.mk hst
      replace hn := Aside0.mk hn
      clear hCv
      by_cases hlt : q < 3
      · obtain ⟨s1, hs1, hcell⟩ : ∃ s1, [x, y, z][q]? = some s1 ∧ wr.cell? ⟨bw, o + q, none⟩ = some (.string (str s1)) :=
          ⟨_, List.getElem?_eq_getElem hlt, (hBr.out.cell (p := ⟨bw, o + q, none⟩) hbw.out).trans (hcells.out q hlt)⟩
        have hs1l : s1.length ≤ 1000 := hwl.out s1 (List.mem_of_getElem? hs1)
        replace hs1 := Aside0.mk hs1
        have hrt := rright_walk (str s1) (by rw [str_size]; omega) wr
        have hadd := Aside0.mk (radd3 hRr.out (by omega) s1)
        cases hr : rightName (str s1) with
        | false =>
          rw [hr] at hrt
          have he := hthree.out.trans (tpar3_wrong (ns := ns) hs1.out hr)
          replace hrt := Aside0.mk hrt
          simp only [Prod.mk.injEq] at he
          obtain ⟨⟨rfl, rfl, rfl⟩, rfl, rfl⟩ := he
          clear hr hadd
          have f0 := blk_frozen hx.out 0
          have f1 := blk_frozen hx.out 1
          have f2 := blk_frozen hx.out 2
          have c0 := (blk_cell hx.out 0).trans (show _ = some (Value.int .i64 0) from rfl)
          have c1 := (blk_cell hx.out 1).trans (show _ = some (Value.int .i64 0) from rfl)
          have c2 := (blk_cell hx.out 2).trans (show _ = some (Value.int .i64 0) from rfl)
          go_wp2_with (go_at_call 42; refine hrt.out.mono ?_; rintro e w3 ⟨rfl, rfl⟩)
          have hx8 := blk_put (blk_put (blk_put hx.out 0 (.int .i64 0) rfl) 1 (.int .i64 0) rfl) 2 (.int .i64 0) rfl
          have z0 := (blk_cell hx8 0).trans (show _ = some (Value.int .i64 0) from rfl)
          have z1 := (blk_cell hx8 1).trans (show _ = some (Value.int .i64 0) from rfl)
          have z2 := (blk_cell hx8 2).trans (show _ = some (Value.int .i64 0) from rfl)
          exact bodyPost_ret (v := .tuple #[.agg #[.int .i64 0, .int .i64 0, .int .i64 0], v, .int .i64 14]) (by simp [results, Tryz.results23, go_sem, z0, z1, z2]) rfl (RTPost.of hB.out (hRv.out.mono fun _ q => .inl q) hx.out (Nat.le_of_eq hg.out))
        | true =>
          rw [hr] at hrt
          replace hrt := Aside0.mk hrt
          have hst2 := hst.out.step hlt hs1.out hr
          replace hst2 := Aside0.mk hst2
          generalize ((findN (addN now s1) s1 : Nat) : Int) = vv at hadd hst2
          generalize addN now s1 = now1 at hadd hst2
          have hia := fun w => ia55q g2 q hlt w
          clear hr
          go_wp2_with (first | (go_at_call 42; refine hrt.out.mono ?_; rintro e w3 ⟨rfl, rfl⟩) | (go_at_call 45; refine hadd.out.mono ?_; rintro e w4 ⟨u4, rfl, hR4, hb4⟩; have hn4 := Aside0.mk ((hb4.block g2 (blk_lt hn.out)).trans hn.out); have fq := blk_frozen hn4.out q; obtain ⟨uq, _, cq⟩ := cell55 hn4.out q hlt; replace hR4 := Aside0.mk hR4; replace hb4 := Aside0.mk hb4))
          go_roundw
          case rel =>
            exact ⟨q + 1, now1, _, _, _, by go_num, by omega, (hBr.out.trans (hb4.out.mono hBr.out.size)).setCell (p := ⟨g2, q, none⟩) (Nat.le_of_eq hg2.out) _, (hR4.out.mono fun b k => k.elim id (fun k => .inr (Nat.le_trans hB.out.size k))).set hn4.out (by decide) q _, hst2.out, put55 hn4.out q hlt vv⟩
          case measure => simp [intOf]; omega
      · obtain rfl : q = 3 := by omega
        have hend := hthree.out.trans (tpar3_end hst.out)
        have f0 := blk_frozen hx.out 0
        have f1 := blk_frozen hx.out 1
        have f2 := blk_frozen hx.out 2
        have c0 := (blk_cell hx.out 0).trans (show _ = some (Value.int .i64 0) from rfl)
        have c1 := (blk_cell hx.out 1).trans (show _ = some (Value.int .i64 0) from rfl)
        have c2 := (blk_cell hx.out 2).trans (show _ = some (Value.int .i64 0) from rfl)
        by_cases h4 : 4096 < now.length
        · rw [if_pos h4] at hend
          have h4i : (4096 : Int) < (now.length : Int) := by omega
          simp only [Prod.mk.injEq] at hend
          obtain ⟨⟨rfl, rfl, rfl⟩, rfl, rfl⟩ := hend
          clear h4
          go_wp2
          have hx8 := blk_put (blk_put (blk_put hx.out 0 (.int .i64 0) rfl) 1 (.int .i64 0) rfl) 2 (.int .i64 0) rfl
          have z0 := (blk_cell hx8 0).trans (show _ = some (Value.int .i64 0) from rfl)
          have z1 := (blk_cell hx8 1).trans (show _ = some (Value.int .i64 0) from rfl)
          have z2 := (blk_cell hx8 2).trans (show _ = some (Value.int .i64 0) from rfl)
          exact bodyPost_ret (v := .tuple #[.agg #[.int .i64 0, .int .i64 0, .int .i64 0], v, .int .i64 15]) (by simp [results, Tryz.results23, go_sem, z0, z1, z2]) rfl (RTPost.of hB.out (hRv.out.mono fun _ q => .inl q) hx.out (Nat.le_of_eq hg.out))
        · rw [if_neg h4] at hend
          have h4i : ¬ (4096 : Int) < (now.length : Int) := by omega
          simp only [Prod.mk.injEq] at hend
          obtain ⟨⟨rfl, rfl, rfl⟩, rfl, rfl⟩ := hend
          have n0 := (blk_cell hn.out 0).trans (show _ = some (Value.int .i64 ra) from rfl)
          have n1 := (blk_cell hn.out 1).trans (show _ = some (Value.int .i64 rb) from rfl)
          have n2 := (blk_cell hn.out 2).trans (show _ = some (Value.int .i64 rc) from rfl)
          clear h4
          go_wp2
          have hx8 := blk_put (blk_put (blk_put hx.out 0 (.int .i64 ra) rfl) 1 (.int .i64 rb) rfl) 2 (.int .i64 rc) rfl
          have z0 := (blk_cell hx8 0).trans (show _ = some (Value.int .i64 ra) from rfl)
          have z1 := (blk_cell hx8 1).trans (show _ = some (Value.int .i64 rb) from rfl)
          have z2 := (blk_cell hx8 2).trans (show _ = some (Value.int .i64 rc) from rfl)
          exact bodyPost_ret (v := .tuple #[.agg #[.int .i64 ra, .int .i64 rb, .int .i64 rc], .slice Av rns.length cv, .int .i64 0]) (by simp [results, Tryz.results23, go_sem, z0, z1, z2]) rfl (RTPost.of hB.out hRr.out hx.out (Nat.le_of_eq hg.out))
  · have hne : ((ws.length : Int) != 3) = true := by simp; omega
    have := hnot.out h3
    simp only [Prod.mk.injEq] at this
    obtain ⟨⟨rfl, rfl, rfl⟩, rfl, rfl⟩ := this
    have f0 := blk_frozen hx1.out 0
    have f1 := blk_frozen hx1.out 1
    have f2 := blk_frozen hx1.out 2
    have c0 := (blk_cell hx1.out 0).trans (show _ = some (Value.int .i64 0) from rfl)
    have c1 := (blk_cell hx1.out 1).trans (show _ = some (Value.int .i64 0) from rfl)
    have c2 := (blk_cell hx1.out 2).trans (show _ = some (Value.int .i64 0) from rfl)
    clear h3 hnot hthree
    go_wp2
    have hx8 := blk_put (blk_put (blk_put hx1.out 0 (.int .i64 0) rfl) 1 (.int .i64 0) rfl) 2 (.int .i64 0) rfl
    have z0 := (blk_cell hx8 0).trans (show _ = some (Value.int .i64 0) from rfl)
    have z1 := (blk_cell hx8 1).trans (show _ = some (Value.int .i64 0) from rfl)
    have z2 := (blk_cell hx8 2).trans (show _ = some (Value.int .i64 0) from rfl)
    exact bodyPost_ret (v := .tuple #[.agg #[.int .i64 0, .int .i64 0, .int .i64 0], v, .int .i64 14]) (by simp [results, Tryz.results23, go_sem, z0, z1, z2]) rfl (RTPost.of hB1.out (hR1.out.mono fun _ q => .inl q) hx1.out (Nat.le_of_eq hg.out))
end Go.Proofs.YtkbkkceeolclmaaGreatDoor.X
namespace Go.TX
theorem goodL_take : ∀ {l : List Cd} (j : Nat), goodL l → goodL (l.take j)
  | [], j, _ => by simp [goodL]
  | x :: l, 0, _ => by simp [goodL]
  | x :: l, j + 1, h => by
    rw [List.take_succ_cons]
    exact ⟨h.1, goodL_take j h.2⟩
theorem cwordsL_snoc {ns : List (List UInt8)} {x : Cd} {a : List (List UInt8)} (hx : cwords ns x = some a) : ∀ {l : List Cd} {ws}, cwordsL ns l = some ws → cwordsL ns (l ++ [x]) = some (ws ++ a)
  | [], ws, h => by
    cases h
    simp [cwordsL, hx]
  | y :: l, ws, h => by
    unfold cwordsL at h
    split at h
    · rename_i u v h1 h2
      cases h
      have := cwordsL_snoc hx h2
      simp [cwordsL, h1, this]
    · cases h
theorem rchk_ok {nm : List UInt8} {l : List Cd} (h : rchk nm l = 0) : rightName (str nm) = true ∧ goodL l ∧ fullL l ∧ csizeL l ≤ 16 := by
  have h1 := good_of_rchk h
  refine ⟨h1.1, h1.2.2.1, ?_, h1.2.2.2⟩
  unfold rchk at h
  rw [if_neg (by rw [h1.1]; simp)] at h
  split at h
  · omega
  · split at h
    · rename_i h2
      exact absurd h h2
    · rename_i h2
      exact fullL_of_chk 1 l (by simpa using h2)
end Go.TX
namespace Go.Proofs.YtkbkkceeolclmaaGreatDoor.X
open Go.RowKit Go.TX Go.Proofs.YtkbkkceeolclmaaGreatDoorW.PrintWords Go.Proofs.YtkbkkceeolclmaaGreatDoorL
set_option maxRecDepth 100000 in
set_option maxHeartbeats 4000000 in
theorem rtext_walk {F : Nat → Prop} {tb : Nat} {ns : List (List UInt8)} (hN : ∀ s ∈ ns, s.length ≤ 32) (hlen : ns.length ≤ 1000000) (nm : List UInt8) (hnm : nm.length ≤ 1000) (l : List Cd) (A : Option Addr) (cap : Nat) (w : World) (G : Nat → Prop) (hs : csizeL l ≤ 1000)
    (hR : RepL evA w G l A 0) (hT : Tb w F tb ns) (hE : Env w) :
    Calls Tryz.prog 11 #[.agg #[.string (str nm), .slice A l.length cap], .pointer (some ⟨tb, 0, none⟩)] w fun e W => e = .returned (.tuple #[.string (str (rtext ns nm l).1), .int .i64 (rtext ns nm l).2]) ∧ Below w.heap.size w W := by
  have hll := csizeL_len l
  have hB0 := Aside0.mk ((Below.refl w.heap.size w).alloc (Nat.le_refl _) (.cells #[.string (str nm), .slice A l.length cap] 25))
  have hx0 := Aside0.mk (blk_new w (.cells #[.string (str nm), .slice A l.length cap] 25))
  replace hR := Aside0.mk hR
  replace hT := Aside0.mk hT
  replace hE := Aside0.mk hE
  obtain ⟨r, hr⟩ : ∃ r, rtext ns nm l = r := ⟨_, rfl⟩
  rw [hr]
  replace hr := Aside0.mk hr
  go_enter Tryz.func11, Tryz.ntmps11
  go_upto_region 1 with fail
  generalize w.alloc (.cells #[.string (str nm), .slice A l.length cap] 25) = W0 at hB0 hx0 ⊢
  have e0 := (blk_cell hx0.out 0).trans (show _ = some (Value.string (str nm)) from rfl)
  have e1 := (blk_cell hx0.out 1).trans (show _ = some (Value.slice A l.length cap) from rfl)
  have hck := Aside0.mk (rule_walk nm (by omega) l A cap W0 G (by omega) (hR.out.below hB0.out))
  generalize hc : rchk nm l = c at hck
  by_cases hc0 : c = 0
  · subst hc0
    obtain ⟨hrn, hgl, hfl, h16⟩ := rchk_ok hc
    have hrc : Aside0 (∀ ws, cwordsL ns l = some ws → r = (join (nm :: ws), 0)) := ⟨fun ws h => by rw [← hr.out]; unfold rtext; rw [if_neg (by rw [hc]; simp), h]⟩
    have hrn : Aside0 (cwordsL ns l = none → r = ([], 16)) := ⟨fun h => by rw [← hr.out]; unfold rtext; rw [if_neg (by rw [hc]; simp), h]⟩
    replace hgl := Aside0.mk hgl
    replace hfl := Aside0.mk hfl
    clear hc
    go_upto_region 5 with (go_at_call 28; refine hck.out.mono ?_; rintro e w1 ⟨rfl, hb⟩; have hx1 := (hb.block _ (blk_lt hx0.out)).trans hx0.out; have d0 := (blk_cell hx1 0).trans (show _ = some (Value.string (str nm)) from rfl); have d1 := (blk_cell hx1 1).trans (show _ = some (Value.slice A l.length cap) from rfl); replace hb := Aside0.mk (hB0.out.trans (hb.mono hB0.out.size)); clear hx1)
    clear hB0 hx0 e0 e1 hck
    go_wp2
    go_loopw [22, 7] (fun i S wr => ∃ (j : Nat) (ws : List (List UInt8)), i = .int .i64 j ∧ j ≤ l.length ∧ Below w.heap.size w wr ∧ cwordsL ns (l.take j) = some ws ∧ S = .string (str (nm ++ tail ws))) (fun i _ _ => l.length - (intOf i).toNat)
    case atStart => exact ⟨0, [], rfl, Nat.zero_le _, hb.out, rfl, by simp [tail]⟩
    case round =>
      obtain ⟨j, ws, rfl, hj, hBw, hws, rfl⟩ := hrel
      clear d0 d1 hb
      clear w1
      have hls := cwordsL_len hN _ ws (goodL_take j hgl.out) hws
      have hle16 := csizeL_take_le l j
      by_cases hlt : j < l.length
      · obtain ⟨b', o, k', x, y, z, subs', B, cap', rfl, hbl, hx, hlen', hR', htk, hle, c0, c1, c2, c3, c4, c5, c6, c7⟩ := sub_at (hR.out.below hBw) hlt
        have hAB : Below wr.heap.size wr (wr.alloc (oC evA 72 k' x y z (.slice B subs'.length cap'))) := (Below.refl _ _).alloc (Nat.le_refl _) _
        have hBW := Aside0.mk (hBw.trans (hAB.mono hBw.size))
        have hxW := Aside0.mk (blk_new wr (oC evA 72 k' x y z (.slice B subs'.length cap')))
        have hcall := Aside0.mk (cond_walk hN hlen (csizeL subs' + 1) k' x y z subs' B cap' (wr.alloc (oC evA 72 k' x y z (.slice B subs'.length cap'))) G (by omega) (by omega) (hx ▸ goodL_get j hlt hgl.out) (hx ▸ fullL_get j hlt hfl.out) (hR'.below hAB) (hT.out.below hBW.out) (hE.out.below hBW.out))
        have hSz : (str (nm ++ tail ws)).size ≤ 200000 := by
          rw [str_size, List.length_append]
          omega
        have hgj := goodL_get j hlt hgl.out
        have hcz : csize l[j] ≤ 16 := by rw [hx]; simp only [csize]; omega
        clear hBw hAB hR' htk hle hls
        go_upto_region 8 with fail
        generalize wr.alloc (oC evA 72 k' x y z (.slice B subs'.length cap')) = W at hBW hxW hcall ⊢
        generalize wr.heap.size = g at hxW ⊢
        clear c0 c1 c2 c3 c4 c5 c6 c7 hbl
        clear wr
        obtain ⟨d0, d1, d2, d3, d4, d5, d6, d7⟩ := box8 hxW.out
        cases hcw : cwords ns l[j] with
        | none =>
          obtain rfl := hrn.out (cwordsL_none hlt hcw)
          rw [← hx, hcw] at hcall
          clear hcw hws hgj hcz
          replace hx := Aside0.mk hx
          go_wp2_with (go_at_call 29; refine hcall.out.mono ?_; rintro e w2 ⟨rfl, hb⟩; replace hb := Aside0.mk hb)
          go_ret2
          exact ⟨rfl, hBW.out.trans (hb.out.mono hBW.out.size)⟩
        | some wj =>
          have htk : cwordsL ns (l.take (j + 1)) = some (ws ++ wj) := by
            rw [List.take_succ_eq_append_getElem hlt]
            exact cwordsL_snoc hcw hws
          have hlj := cwords_len hN _ wj hgj hcw
          have hjj := tail_join (cwords_ne ns _ wj hcw)
          have hSj : (str (join wj)).size ≤ 200000 := by
            rw [hjj, List.length_cons] at hlj
            rw [str_size]
            omega
          have hcat : Aside0 (str (nm ++ tail ws) ++ (⟨#[32]⟩ ++ str (join wj)) = str (nm ++ tail (ws ++ wj))) := ⟨by
            show str (nm ++ tail ws) ++ (str [32] ++ str (join wj)) = _
            rw [str_app, str_app, tail_app, hjj]
            simp⟩
          rw [← hx, hcw] at hcall
          simp only [Option.map_some, Option.getD_some, Option.isSome_some] at hcall
          replace hx := Aside0.mk hx
          replace htk := Aside0.mk htk
          clear hcw hws hgj hcz hlj hjj
          generalize str (join wj) = S2 at hSj hcat hcall
          generalize str (nm ++ tail ws) = S1 at hSz hcat ⊢
          go_wp2_with (go_at_call 29; refine hcall.out.mono ?_; rintro e w2 ⟨rfl, hb⟩; replace hb := Aside0.mk hb)
          go_roundw
          case rel => exact ⟨j + 1, ws ++ wj, by go_num, by omega, hBW.out.trans (hb.out.mono hBW.out.size), htk.out, by rw [← hcat.out]⟩
          case measure => simp [intOf]; omega
      · obtain rfl : j = l.length := by omega
        rw [List.take_length] at hws
        obtain rfl := hrc.out ws hws
        have hcat : Aside0 (nm ++ tail ws = join (nm :: ws)) := ⟨by rw [join_cons]; rfl⟩
        replace hBw := Aside0.mk hBw
        clear hws hls
        go_wp2
        go_ret2
        exact ⟨by rw [← hcat.out]; rfl, hBw.out⟩
  · have hv1 : (c != 0) = true := bne_iff_ne.2 hc0
    obtain rfl : r = ([], c) := by rw [← hr.out]; unfold rtext; rw [if_pos (by rw [hc]; exact hc0), hc]
    replace hc := Aside0.mk hc
    go_wp2_with (go_at_call 28; refine hck.out.mono ?_; rintro e w1 ⟨rfl, hb⟩; replace hb := Aside0.mk (hB0.out.trans (hb.mono hB0.out.size)))
    go_ret2
    exact ⟨rfl, hb.out⟩
end Go.Proofs.YtkbkkceeolclmaaGreatDoor.X
