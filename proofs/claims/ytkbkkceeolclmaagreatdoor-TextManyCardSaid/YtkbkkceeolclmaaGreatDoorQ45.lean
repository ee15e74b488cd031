/- The document's rule of a text. -/
import Derived.Test.YtkbkkceeolclmaaGreatDoorQ44
import Derived.Test.YtkbkkceeolclmaaGreatDoorQ33
import Derived.Test.YtkbkkceeolclmaaGreatDoorQ31
import Derived.Test.YtkbkkceeolclmaaGreatDoorQ09
set_option linter.unusedVariables false
set_option linter.unusedSimpArgs false
namespace Go.Proofs.YtkbkkceeolclmaaGreatDoor.X
open Go.RowKit Go.TX Go.Proofs.YtkbkkceeolclmaaGreatDoorW.PrintWords Go.Proofs.YtkbkkceeolclmaaGreatDoorL
attribute [local go_sem] YReg.envOf
abbrev y38 : Obj := .cells #[.string ⟨#[]⟩, .slice none 0 0] 38
/-- What the document's reading leaves. -/
def RPPost (w : World) (res : (List UInt8 × List Cd) × List (List UInt8) × Int) (e : Ending) (W : World) : Prop :=
  ∃ S u, e = .returned (.tuple #[.agg #[.string (str res.1.1), S], u, .int .i64 res.2.2]) ∧ BR w.heap.size W S res.1.2 ∧ RN W u res.2.1 ∧ Below w.heap.size w W
theorem RPPost.of {w W : World} {nm : List UInt8} {l : List Cd} {ns : List (List UInt8)} {code : Int} {S u : Value} {g : Nat} (hB : Below w.heap.size w W) (hS : BR (g + 1) W S l) (hR : RN W u ns) (hx : W.heap[g]? = some y38) (hg : w.heap.size = g) :
    RPPost w ((nm, l), ns, code) (.returned (.tuple #[.agg #[.string (str nm), S], u, .int .i64 code])) ((W.setCell ⟨g, 0, none⟩ (.string (str nm))).setCell ⟨g, 1, none⟩ S) := by
  have x1 := blk_put hx 0 (.string (str nm)) rfl
  exact ⟨S, u, rfl, ((hS.set (p := ⟨g, 0, none⟩) (Nat.lt_succ_self g) _).set (p := ⟨g, 1, none⟩) (Nat.lt_succ_self g) _).base (by omega), (hR.set hx (by decide) 0 _).set x1 (by decide) 1 _, (hB.setCell (p := ⟨g, 0, none⟩) (Nat.le_of_eq hg) _).setCell (p := ⟨g, 1, none⟩) (Nat.le_of_eq hg) _⟩
theorem RPPost.drew {w W : World} {res : (List UInt8 × List Cd) × List (List UInt8) × Int} {e : Ending} (h : RPPost w res e W) : RPPost w res e W.drew := by
  obtain ⟨S, u, h1, h2, h3, h4⟩ := h
  have hb := (YReg.Ext.refl W.drew).of_drew
  exact ⟨S, u, h1, h2.below hb, h3.below hb, h4.trans (hb.mono h4.size)⟩
set_option maxRecDepth 100000 in
set_option maxHeartbeats 8000000 in
theorem rpparse_walk {w : World} {v : Value} {ns : List (List UInt8)} (h : RN w v ns) (hnl : ns.length ≤ 5000) (s : List UInt8) (hs : s.length ≤ 1000) :
    Calls Tryz.prog 17 #[.string (str s), v] w (RPPost w (rparse ns s)) := by
  obtain ⟨i0, hi, hz0, hz1, hz2⟩ := info_parts info81
  replace hi := Aside0.mk hi
  replace hz0 := Aside0.mk hz0
  replace hz1 := Aside0.mk hz1
  replace hz2 := Aside0.mk hz2
  have hmax : 1000000 ≤ maxLen := by decide
  obtain ⟨Av, cv, rfl, hcv, -⟩ := h.reads
  have hB0 := Aside0.mk ((Below.refl w.heap.size w).alloc (Nat.le_refl _) y38)
  have hx0 := Aside0.mk (blk_new w y38)
  have hR0 := Aside0.mk (h.below hB0.out)
  have hwords := Aside0.mk (fun W => refWords_any (str s) (by rw [str_size]; omega) W)
  have hwb := words_bound s
  obtain ⟨⟨⟨rnm, rl⟩, rns, rcode⟩, hres⟩ : ∃ q, rparse ns s = q := ⟨_, rfl⟩
  rw [hres]
  obtain ⟨nm, l, hw⟩ : ∃ nm l, words s = nm :: l := by
    cases hw : words s with
    | nil => exact absurd hw (words_ne s)
    | cons a t => exact ⟨a, t, rfl⟩
  have hpc : pieces (str s) = (words s).map str := rfl
  unfold WordsPost at hwords
  rw [hpc, hw] at hwords
  rw [hw] at hwb
  unfold rparse at hres
  rw [hw] at hres
  simp only at hres
  have hws : (nm :: l).length ≤ 1001 := by have := hwb.1; omega
  have hwl := Aside0.mk (fun (x : List UInt8) (hx : x ∈ nm :: l) => show x.length ≤ 1000 by have := hwb.2 x hx; omega)
  have hnml : nm.length ≤ 1000 := hwl.out nm (by simp)
  clear h hwb hw hpc
  have hz0' := Aside0.mk (show (w.alloc y38).heap.size = w.heap.size + 1 by simp)
  replace hres := Aside0.mk hres
  go_enter Tryz.func17, Tryz.ntmps17
  go_upto_region 1 with fail
  generalize w.alloc y38 = W0 at hB0 hx0 hR0 hz0' ⊢
  generalize hg : w.heap.size = g at hx0 hz0' ⊢
  replace hg := Aside0.mk hg
  go_upto_region 2 with (go_at_call 40; refine (hwords.out _).mono ?_; rintro e W1 ⟨vw, rfl, hw, hb1⟩; replace hw : DN W0.heap.size (fun _ => True) W1 vw (nm :: l) := hw; have hw1 := Aside0.mk (RN.of hw); obtain ⟨Aw, cw, rfl, hcw, -⟩ := hw1.out.reads; replace hb1 := Aside0.mk hb1; clear hw)
  have hA2 := (Below.refl W1.heap.size W1).alloc (Nat.le_refl _) (rdO (.slice Aw (nm :: l).length cw) (.slice Av ns.length cv) 1 0)
  have hr97 : Aside0 (∃ cs : Array Value, (W1.alloc (rdO (.slice Aw (nm :: l).length cw) (.slice Av ns.length cv) 1 0)).heap[W1.heap.size]? = some (.cells cs 97 (0, 0))) := ⟨_, blk_new _ _⟩
  have hd2 : DRd (W1.alloc (rdO (.slice Aw (nm :: l).length cw) (.slice Av ns.length cv) 1 0)) W1.heap.size (.slice Aw (nm :: l).length cw) (nm :: l) ns 1 0 := ⟨_, blk_new _ _, hw1.out.below hA2, (hR0.out.below hb1.out).below hA2⟩
  have hB2 := Aside0.mk ((hB0.out.trans (hb1.out.mono hB0.out.size)).trans (hA2.mono (Nat.le_trans hB0.out.size hb1.out.size)))
  have hR2 := Aside0.mk ((hR0.out.below hb1.out).below hA2)
  have hx2 := Aside0.mk ((hA2.block _ (blk_lt ((hb1.out.block g (blk_lt hx0.out)).trans hx0.out))).trans ((hb1.out.block g (blk_lt hx0.out)).trans hx0.out))
  have hgr : g + 1 ≤ W1.heap.size := by have := hz0'.out; have := hb1.out.size; omega
  have hrl := hA2.size
  clear hw1 hR0 hB0 hx0 hb1 hA2 hz0'
  generalize W1.alloc (rdO (.slice Aw (nm :: l).length cw) (.slice Av ns.length cv) 1 0) = W2 at hd2 hB2 hR2 hx2 hrl hr97 ⊢
  generalize W1.heap.size = r at hd2 hgr hrl hr97 ⊢
  clear W1 W0
  have hcall := dconds_walk hwl.out (by omega) (l.length + 1) (l.length + 1) W2 ns 1 false (Nat.le_refl _) (by simp) (by simp) hd2 (by simp; simp at hws; omega)
  rw [show evI false = 0 from rfl] at hcall
  replace hcall := Aside0.mk hcall
  clear hd2
  go_upto_region 3 with (go_at_call 41; refine hcall.out.mono ?_; rintro e W3 ⟨S3, out, k3, ns3, bad3, rfl, hds3, -, -, hn3, ho3, hc3⟩; obtain ⟨A3, c3, rfl⟩ := hds3.1.form; replace hds3 := Aside0.mk hds3; replace hc3 := Aside0.mk hc3)
  have hB3 := Aside0.mk (Ch.below hds3.out.2.2.1 hB2.out hB2.out.size (fun b e => by have : b = r := e; have := hg.out; omega))
  have hx3 := Aside0.mk ((hds3.out.2.2.1.block g (blk_lt hx2.out) (fun e => by have : g = r := e; omega)).trans hx2.out)
  have hR3 : Aside0 (RN W3 (.slice Av ns.length cv) ns) := ⟨hR2.out.k9 fun b cs e => hds3.out.2.2.1.block b (blk_lt e) fun q => by
    have q : b = r := q
    subst q
    obtain ⟨c97, h97⟩ := hr97.out
    exact ne_type e h97 (by decide) rfl⟩
  have hd3 := Aside0.mk hds3.out.2.1
  have hS3 := Aside0.mk hds3.out.1
  have hs23 := Aside0.mk hds3.out.2.2.1.size
  clear hds3 hB2 hx2 hR2 hcall hr97
  obtain ⟨r0, -, r3, -, -⟩ := hd3.out.cells
  obtain ⟨A', c', B3, d3, e, hh3, hc', hcells⟩ := hd3.out.form
  cases e
  obtain ⟨b0, o0, rfl, hc0⟩ := hcells 0 (by simp)
  clear hh3 hcells
  have hc0' : W3.cell? ⟨b0, o0, none⟩ = some (.string (str nm)) := by simpa using hc0
  clear hc0
  go_upto_region 4 with fail
  have hA4 := (Below.refl W3.heap.size W3).alloc (Nat.le_refl _) (.cells #[.string (str nm), .slice A3 out.length c3] 38)
  have hn4 := Aside0.mk (blk_new W3 (.cells #[.string (str nm), .slice A3 out.length c3] 38))
  have hB4 := Aside0.mk (hB3.out.trans (hA4.mono hB3.out.size))
  have hx4 := Aside0.mk (blk_alloc hx3.out (.cells #[.string (str nm), .slice A3 out.length c3] 38))
  have hR4 := Aside0.mk (hR3.out.below hA4)
  have hd4 := Aside0.mk (hd3.out.below hA4)
  have hS4 := Aside0.mk ((hS3.out.below hA4).base (m := g + 1) (by omega))
  have hz34 := hA4.size
  clear r0 r3 hc0' hB3 hx3 hR3 hd3 hS3 hA4
  generalize W3.alloc (.cells #[.string (str nm), .slice A3 out.length c3] 38) = W4 at hn4 hB4 hx4 hR4 hd4 hS4 hz34 ⊢
  generalize hg9 : W3.heap.size = g9 at hn4 hz34 ⊢
  have hg91 : g + 1 ≤ g9 := by have := hs23.out; omega
  replace hg9 := Aside0.mk hg9
  clear hs23
  obtain ⟨r0, -, r3, -, -⟩ := hd4.out.cells
  have e0 := (blk_cell hn4.out 0).trans (show _ = some (Value.string (str nm)) from rfl)
  have x0 := (blk_cell hx4.out 0).trans (show _ = some (Value.string ⟨#[]⟩) from rfl)
  have x1 := (blk_cell hx4.out 1).trans (show _ = some (Value.slice none 0 0) from rfl)
  have f0 := blk_frozen hx4.out 0
  have f1 := blk_frozen hx4.out 1
  have hright := Aside0.mk (fun W => rright_walk (str nm) (by rw [str_size]; omega) W)
  rcases hc3.out with ⟨hnone, rfl⟩ | ⟨rfl, hsome⟩
  · have hnone : pconds (l.length + 1) false l ns = none := hnone
    have he := hres.out
    rw [hnone] at he
    simp only [Prod.mk.injEq] at he
    obtain ⟨⟨rfl, rfl⟩, rfl, rfl⟩ := he
    clear hnone hright
    go_wp2
    have hx8 := blk_put (blk_put hx4.out 0 (.string ⟨#[]⟩) rfl) 1 (.slice none 0 0) rfl
    have z0 := (blk_cell hx8 0).trans (show _ = some (Value.string ⟨#[]⟩) from rfl)
    have z1 := (blk_cell hx8 1).trans (show _ = some (Value.slice none 0 0) from rfl)
    exact bodyPost_ret (v := .tuple #[.agg #[.string ⟨#[]⟩, .slice none 0 0], .slice Av ns.length cv, .int .i64 14]) (by simp [results, Tryz.results17, go_sem, z0, z1]) rfl (RPPost.of (nm := []) (l := []) hB4.out (BR.nil _ _) hR4.out hx4.out hg.out)
  have hsome : pconds (l.length + 1) false l ns = some (ns3, out, (nm :: l).drop k3) := hsome
  have hsz := pconds_size _ _ _ _ _ _ _ hsome
  have he := Aside0.mk hres.out
  rw [hsome] at he
  simp only at he
  have hnsl : ns3.length ≤ 10000 := by simp at hn3 hws; omega
  simp only [List.length_cons] at hws
  have hcs : csizeL out ≤ 1000 := by omega
  clear hsome hres hc3
  cases hnr : rightName (str nm) with
  | false =>
    have he := he.out
    rw [if_pos hnr] at he
    rw [hnr] at hright
    simp only [Prod.mk.injEq] at he
    obtain ⟨⟨rfl, rfl⟩, rfl, rfl⟩ := he
    clear hnr
    go_wp2_with (go_at_call 42; refine (hright.out _).mono ?_; rintro e w3 ⟨rfl, rfl⟩)
    have hx8 := blk_put (blk_put hx4.out 0 (.string ⟨#[]⟩) rfl) 1 (.slice none 0 0) rfl
    have z0 := (blk_cell hx8 0).trans (show _ = some (Value.string ⟨#[]⟩) from rfl)
    have z1 := (blk_cell hx8 1).trans (show _ = some (Value.slice none 0 0) from rfl)
    exact bodyPost_ret (v := .tuple #[.agg #[.string ⟨#[]⟩, .slice none 0 0], .slice Av ns.length cv, .int .i64 14]) (by simp [results, Tryz.results17, go_sem, z0, z1]) rfl (RPPost.of (nm := []) (l := []) hB4.out (BR.nil _ _) hR4.out hx4.out hg.out)
  | true =>
  rw [if_neg (by rw [hnr]; simp)] at he
  rw [hnr] at hright
  clear hnr
  have hA5 := (Below.refl W4.heap.size W4).alloc (Nat.le_refl _) (.cells #[.string (str nm), .slice none 0 0] 38)
  have hp1 := blk_new W4 (.cells #[.string (str nm), .slice none 0 0] 38)
  obtain ⟨A3', c3', e, hrd⟩ := hS4.out.reads
  cases e
  have hRb := Aside0.mk (RepL.bound out A3 0 hrd)
  go_upto_region 7 with (go_at_call 42; refine (hright.out _).mono ?_; rintro e w3 ⟨rfl, rfl⟩)
  have hB1 := hA5
  generalize hV : W4.alloc (.cells #[.string (str nm), .slice none 0 0] 38) = V at hp1 hB1 hA5 ⊢
  have hs1 : W4.heap.size + 1 ≤ V.heap.size := by rw [← hV]; simp
  clear hV hrd hA5 r0 r3 e0 x0 x1 f0 f1
  generalize hgx : W4.heap.size = gx at hp1 hB1 hs1 hRb hz34 ⊢
  replace hgx := Aside0.mk hgx
  replace hp1 := Aside0.mk hp1
  replace hB1 := Aside0.mk hB1
  replace hs1 := Aside0.mk hs1
  go_upto_region 8 with fail
  go_loopw [47] (fun i wr => ∃ (j : Nat) (v : Value), i = .int .i64 j ∧ j ≤ out.length ∧ wr.heap[gx]? = some (.cells #[.string (str nm), v] 38 (0, 0)) ∧ BR (gx + 1) wr v (heldL (out.take j)) ∧ Below gx W4 wr ∧ gx + 1 ≤ wr.heap.size) (fun i _ => out.length - (intOf i).toNat)
  case atStart => exact ⟨0, _, rfl, Nat.zero_le _, hp1.out, BR.nil _ _, hB1.out, hs1.out⟩
  case round =>
    obtain ⟨j, v, rfl, hj, hgr, hbr, hBw, hsz⟩ := hrel
    clear hp1 hB1 hs1
    clear V
    have hll : (heldL (out.take j)).length = j := by rw [heldL_len, List.length_take_of_le hj]
    obtain ⟨A', cp, rfl⟩ : ∃ A' cp, v = .slice A' j cp := by
      obtain ⟨A', cp, e⟩ := hbr.form
      rw [hll] at e
      exact ⟨A', cp, e⟩
    have hlen := csizeL_len out
    by_cases hlt : j < out.length
    · obtain ⟨b', o, k', x, y, z, subs', B, cap', rfl, hbl, hx, hlen', hR', htk, hle, c0, c1, c2, c3, c4, c5, c6, c7⟩ := sub_at (RepL.move (W := wr) _ _ _ hRb.out (fun b hb _ => hBw.block b hb.2)) hlt
      have hAB : Below wr.heap.size wr (wr.alloc (oC evR 81 k' x y z (.slice B subs'.length cap'))) := (Below.refl _ _).alloc (Nat.le_refl _) _
      have hBW := Aside0.mk (hBw.trans (hAB.mono (by omega)))
      have hRW := Aside0.mk (hR'.below hAB)
      have hgW := Aside0.mk (blk_alloc hgr (oC evR 81 k' x y z (.slice B subs'.length cap')))
      have hxW := Aside0.mk (blk_new wr (oC evR 81 k' x y z (.slice B subs'.length cap')))
      have hbW := Aside0.mk (hbr.below hAB)
      have hsW := Aside0.mk (Nat.le_trans hsz hAB.size)
      have hih := Aside0.mk (dheld_walk (csizeL subs' + 1) k' x y z subs' B cap')
      have hls : csizeL subs' < csizeL subs' + 1 := by omega
      have hRn : csizeL subs' + 1 ≤ 1000000 := by omega
      replace hx := Aside0.mk hx
      replace hls := Aside0.mk hls
      replace hlen' := Aside0.mk hlen'
      clear hgr hbr hBw hAB hR' htk hle hsz
      go_upto_region 10 with fail
      generalize wr.alloc (oC evR 81 k' x y z (.slice B subs'.length cap')) = W at hBW hRW hgW hxW hbW hsW ⊢
      clear c0 c1 c2 c3 c4 c5 c6 c7 hbl
      generalize hnw : wr.heap.size = nw at hxW ⊢
      clear hnw
      clear wr
      have t0 : ∀ W', YReg.Ext W.drew W' → W'.cell? ⟨gx, 1, none⟩ = some (.slice A' j cp) := fun W' h => (blk_cell ((h.of_drew.block _ (blk_lt hgW.out)).trans hgW.out) 1).trans rfl
      have bx := fun W' (h : YReg.Ext W.drew W') => box8 ((h.of_drew.block _ (blk_lt hxW.out)).trans hxW.out)
      have s0 : ∀ W', YReg.Ext W.drew W' → W'.cell? ⟨nw, 0, none⟩ = some (.int .i64 k') := fun W' h => (bx W' h).1
      have s1 : ∀ W', YReg.Ext W.drew W' → W'.cell? ⟨nw, 1, none⟩ = some (evR x.1) := fun W' h => (bx W' h).2.1
      have s2 : ∀ W', YReg.Ext W.drew W' → W'.cell? ⟨nw, 2, none⟩ = some (.int .i64 x.2) := fun W' h => (bx W' h).2.2.1
      have s3 : ∀ W', YReg.Ext W.drew W' → W'.cell? ⟨nw, 3, none⟩ = some (evR y.1) := fun W' h => (bx W' h).2.2.2.1
      have s4 : ∀ W', YReg.Ext W.drew W' → W'.cell? ⟨nw, 4, none⟩ = some (.int .i64 y.2) := fun W' h => (bx W' h).2.2.2.2.1
      have s5 : ∀ W', YReg.Ext W.drew W' → W'.cell? ⟨nw, 5, none⟩ = some (evR z.1) := fun W' h => (bx W' h).2.2.2.2.2.1
      have s6 : ∀ W', YReg.Ext W.drew W' → W'.cell? ⟨nw, 6, none⟩ = some (.int .i64 z.2) := fun W' h => (bx W' h).2.2.2.2.2.2.1
      have s7 : ∀ W', YReg.Ext W.drew W' → W'.cell? ⟨nw, 7, none⟩ = some (.slice B subs'.length cap') := fun W' h => (bx W' h).2.2.2.2.2.2.2
      clear bx
      have k43 : Aside0 (∀ W', YReg.Ext W.drew W' → Calls Tryz.prog 43 #[aC evR k' x y z (.slice B subs'.length cap')] W' fun e W2 => ∃ u, e = .returned u ∧ YReg.Ext W' W2 ∧ IsC W.heap.size k' (cutT x) (cutT y) (cutT z) (heldL subs') u W2) := ⟨fun W' h => (hih.out W' _ hls.out hRn (hRW.out.below h.of_drew)).mono fun e W2 ⟨S, h1, h2, h3⟩ => ⟨_, h1, h2, S, rfl, h3.base h.of_drew.size⟩⟩
      refine YReg.wp_region_tail 5 none YReg.Ext YReg.Ext YReg.Ext.refl YReg.Ext.trans YReg.Ext.trans (fun _ _ h => h) (by kernel_rfl) (by kernel_rfl) (by kernel_rfl) [(10, .det (.pointer (some ⟨gx, 0, none⟩))), (12, .det (.pointer (some ⟨nw, 0, none⟩)))] (YReg.base_cons rfl (YReg.base_cons rfl YReg.base_nil)) ?_
      simp only [List.take_succ_cons, List.take_zero, List.drop_succ_cons, List.drop_zero]
      repeat (first
        | (refine YReg.walk_calln (by decide) IsC.up k43.out rfl (by kernel_rfl) (by kernel_rfl) _ rfl (by kernel_rfl) (by kernel_rfl) ?_)
        | (refine YReg.run_1 (by decide) YReg.Ext.refl rfl rfl _ rfl (by kernel_rfl) (by kernel_rfl) ?_; apply Exists.intro; refine ⟨fun ρ W hE h1 => ?_, ?_⟩; (go_simp; try rfl))
        | (refine YReg.nd_1n (by decide) (InC 81 W.heap.size k' (cutT x) (cutT y) (cutT z) (heldL subs')) InC.up rfl rfl (fun ρ W1 hE ⟨S, e1, h2⟩ => by obtain ⟨a0, c0, e⟩ := h2.form; subst e; exact ⟨_, _, by (go_simp; try rfl), (Below.refl _ W1).alloc (Nat.le_refl _) _, W1.heap.size, _, rfl, blk_new _ _, h2.below ((Below.refl _ W1).alloc (Nat.le_refl _) _), by simp⟩) _ rfl (by kernel_rfl) (by kernel_rfl) ?_))
      intro ρ W' hE hn
      obtain ⟨⟨_, hc1⟩, gb, S, e23, hgb, hS, hgbl⟩ := hn
      have hBe := hE.of_drew
      obtain ⟨A2, c2, rfl⟩ := hS.form
      have hB' := Aside0.mk (hBW.out.trans (hBe.mono (by have := hsW.out; omega)))
      have hg' := Aside0.mk ((hBe.block _ (blk_lt hgW.out)).trans hgW.out)
      have hb' := hbW.out.below hBe
      obtain ⟨css, hcl, hco, hcr⟩ := hb'
      rw [hll] at hco hcl
      have hown : Aside0 (∀ b, Value.ownBlock (.slice A' j cp) = some b → b < W.heap.size) := by
        obtain ⟨css2, _, hco2, _⟩ := hbW.out
        exact ⟨fun b hb => (owner_lt hco2 hb).2⟩
      replace hS := Aside0.mk hS
      have hgb' := Aside0.mk hgb
      have hcl' : css.length = (heldL (out.take j)).length := by rw [hll]; exact hcl
      replace hcl' := Aside0.mk hcl'
      replace hcr := Aside0.mk hcr
      have hgs : gx + 1 ≤ W'.heap.size := Nat.le_trans hsW.out hBe.size
      have hsW' := Aside0.mk hsW.out
      have hglt := Aside0.mk (blk_lt hg'.out)
      simp only [e23]
      clear hE hc1 hgb hgbl k43 t0 s0 s1 s2 s3 s4 s5 s6 s7 hBe hgW hxW hbW hBW hRW hih e23 hcl hsW
      generalize ρ 54 = x19
      simp only [Act.put, List.setIfInBounds_toArray, List.set_cons_zero, List.set_cons_succ]
      have hj1 : j + 1 ≤ maxLen := by omega
      have hj2 : (j + 1) * 80 ≤ 140737488355328 := by omega
      replace hll := Aside0.mk hll
      go_wp2_with (at_builtin; refine wpList_append_own2 rfl _ _ 36 rfl (gx + 1) 81 i0 (aC evR 0 (false, 0) (false, 0) (false, 0) (.slice none 0 0)) 8 80 Tryz.underlying36 hi.out hz0.out hz1.out hz2.out rfl (by decide) _ j css.flatten rfl hco ⟨gb, 0, none⟩ 1 1 [.int .i64 k', evR (cutT x).1, .int .i64 (cutT x).2, evR (cutT y).1, .int .i64 (cutT y).2, evR (cutT z).1, .int .i64 (cutT z).2, .slice A2 (heldL subs').length c2] rfl (by decide) rfl (cells_at hgb'.out) (by simp [Value.oneCell']) hj1 hj2 hgs ?_; intro v3 w3 hown3 hgr3 hfr3; obtain ⟨A3, c3, rfl⟩ := owns_form hown3; have hg3 := (hgr3.block (gx) hglt.out (fun e => by have := (owner_lt hco e.symm).1; omega)).trans hg'.out; have f7 := blk_frozen hg3 1; have p7 := (blk_cell hg3 1).trans (show _ = some (Value.slice A' j cp) from rfl); replace hg3 := Aside0.mk hg3; replace hown3 := Aside0.mk hown3; replace hgr3 := Aside0.mk hgr3; replace hfr3 := Aside0.mk hfr3)
      go_roundw
      case rel =>
        have htk : heldL (out.take (j + 1)) = heldL (out.take j) ++ [.mk k' (cutT x) (cutT y) (cutT z) (heldL subs')] := by
          rw [List.take_succ_eq_append_getElem hlt, hx.out, heldL_app]
          rfl
        refine ⟨j + 1, .slice A3 (j + 1) c3, by go_num, by omega, blk_put hg3.out 1 _ rfl, ?_, ?_, ?_⟩
        · rw [htk]
          refine (BR.snoc (m := W.heap.size) (W := W') (v := .slice A' j cp) hcl'.out (by rw [hll.out]; exact hco) hcr.out rfl (hS.out.rep (by rw [heldL_len]; exact hlen'.out)) hsW'.out hown.out (by rw [hll.out]; exact hown3.out) hgr3.out hfr3.out).set (p := ⟨gx, 1, none⟩) (by show gx < gx + 1; omega) _
        · exact (hB'.out.grown hgr3.out (by omega) (fun b hb => by have := (owner_lt hco hb).1; omega)).setCell (p := ⟨gx, 1, none⟩) (Nat.le_refl _) _
        · have := hgr3.out.size
          have h2 : gx + 1 ≤ w3.heap.size := by omega
          simpa [World.setCell] using h2
      case measure => simp [intOf]; omega
    · obtain rfl : j = out.length := by omega
      rw [List.take_length] at hbr
      obtain ⟨A2, c2, e, hrd⟩ := hbr.reads
      rw [heldL_len] at e
      cases e
      have hcall2 := rrule_walk nm hnml (heldL out) A' cp wr _ (by rw [heldL_size]; exact hcs) hrd
      obtain ⟨rv, hrv⟩ : ∃ q, rchk nm (heldL out) = q := ⟨_, rfl⟩
      rw [heldL_len, hrv] at hcall2
      rw [hrv] at he
      replace hcall2 := Aside0.mk hcall2
      have hBw' : Below W4.heap.size W4 wr := hgx.out.symm ▸ hBw
      have hB5 := Aside0.mk (hB4.out.trans (hBw'.mono hB4.out.size))
      have hx5 := Aside0.mk (blk_below hx4.out hBw')
      have hn5 := Aside0.mk (blk_below hn4.out hBw')
      have hR5 := Aside0.mk (hR4.out.below hBw')
      have hd5 := Aside0.mk (hd4.out.below hBw')
      have hS5 := Aside0.mk (hS4.out.below hBw')
      have g0 := (blk_cell hgr 0).trans (show _ = some (Value.string (str nm)) from rfl)
      have g1 := (blk_cell hgr 1).trans (show _ = some (Value.slice A' out.length cp) from rfl)
      clear hbr hrd hgr hBw' hBw hrv hRb hB4 hx4 hn4 hR4 hd4 hS4 hsz
      go_upto_region 13 with (go_at_call 30; refine hcall2.out.mono ?_; rintro e w6 ⟨rfl, hb6⟩; replace hb6 := Aside0.mk hb6)
      have hB6 := Aside0.mk (hB5.out.trans (hb6.out.mono hB5.out.size))
      have hx6 := Aside0.mk (blk_below hx5.out hb6.out)
      have hn6 := blk_below hn5.out hb6.out
      have hR6 := Aside0.mk (hR5.out.below hb6.out)
      have hd6 := Aside0.mk (hd5.out.below hb6.out)
      have hS6 := Aside0.mk (hS5.out.below hb6.out)
      have hrn := Aside0.mk (show ∃ U, w6.heap[r]? = some (rdO (.slice (some ⟨b0, o0, none⟩) (nm :: l).length cw) U k3 0) ∧ RN w6 U ns3 by
        obtain ⟨U, q1, -, q3⟩ := hd6.out
        exact ⟨U, q1, q3⟩)
      clear hcall2 g0 g1 hB5 hx5 hn5 hR5 hd5 hS5 hb6
      have x0 := (blk_cell hx6.out 0).trans (show _ = some (Value.string ⟨#[]⟩) from rfl)
      have x1 := (blk_cell hx6.out 1).trans (show _ = some (Value.slice none 0 0) from rfl)
      have f0 := blk_frozen hx6.out 0
      have f1 := blk_frozen hx6.out 1
      by_cases hz : rv = 0
      · subst hz
        rw [if_neg (by simp)] at he
        obtain ⟨U, q1, q3⟩ := hrn.out
        obtain ⟨B5, d5, rfl, -, -⟩ := q3.reads
        have r2 := (blk_cell q1 2).trans (show _ = some (Value.slice B5 ns3.length d5) from rfl)
        replace q3 := Aside0.mk q3
        clear q1 hrn
        by_cases h4 : 4096 < ns3.length
        · have he := he.out
          rw [if_pos h4] at he
          simp only [Prod.mk.injEq] at he
          obtain ⟨⟨rfl, rfl⟩, rfl, rfl⟩ := he
          have h4i : (4096 : Int) < (ns3.length : Int) := by omega
          clear h4 hn6
          go_wp2
          have hx8 := blk_put (blk_put hx6.out 0 (.string ⟨#[]⟩) rfl) 1 (.slice none 0 0) rfl
          have z0 := (blk_cell hx8 0).trans (show _ = some (Value.string ⟨#[]⟩) from rfl)
          have z1 := (blk_cell hx8 1).trans (show _ = some (Value.slice none 0 0) from rfl)
          exact bodyPost_ret (v := .tuple #[.agg #[.string ⟨#[]⟩, .slice none 0 0], .slice Av ns.length cv, .int .i64 15]) (by simp [results, Tryz.results17, go_sem, z0, z1]) rfl (RPPost.of (nm := []) (l := []) hB6.out (BR.nil _ _) hR6.out hx6.out hg.out)
        · have he := he.out
          rw [if_neg h4] at he
          simp only [Prod.mk.injEq] at he
          obtain ⟨⟨rfl, rfl⟩, rfl, rfl⟩ := he
          have h4i : ¬ (4096 : Int) < (ns3.length : Int) := by omega
          clear h4
          have e0 := (blk_cell hn6 0).trans (show _ = some (Value.string (str nm)) from rfl)
          have e1 := (blk_cell hn6 1).trans (show _ = some (Value.slice A3 out.length c3) from rfl)
          replace hn6 := Aside0.mk hn6
          go_upto_region 17 with fail
          have hrg : r ≠ g := by omega
          have hrg' : g ≠ r := by omega
          have h9g : g9 ≠ g := by omega
          have h9g' : g ≠ g9 := by omega
          go_region
          have hx8 := blk_put (blk_put hx6.out 0 (.string (str nm)) rfl) 1 (.slice A3 out.length c3) rfl
          have z0 := (blk_cell (blk_drew hx8) 0).trans (show _ = some (Value.string (str nm)) from rfl)
          have z1 := (blk_cell (blk_drew hx8) 1).trans (show _ = some (Value.slice A3 out.length c3) from rfl)
          clear x0 x1 f0 f1 r2 e0 e1
          go_wp2
          exact bodyPost_ret (v := .tuple #[.agg #[.string (str nm), .slice A3 out.length c3], .slice B5 ns3.length d5, .int .i64 0]) (by simp [results, Tryz.results17, go_sem, z0, z1]) rfl (RPPost.of hB6.out hS6.out q3.out hx6.out hg.out).drew
      · have hne : (rv != 0) = true := bne_iff_ne.2 hz
        have he := he.out
        rw [if_pos hz] at he
        simp only [Prod.mk.injEq] at he
        obtain ⟨⟨rfl, rfl⟩, rfl, rfl⟩ := he
        clear hn6 hrn
        replace hz := Aside0.mk hz
        go_wp2
        have hx8 := blk_put (blk_put hx6.out 0 (.string ⟨#[]⟩) rfl) 1 (.slice none 0 0) rfl
        have z0 := (blk_cell hx8 0).trans (show _ = some (Value.string ⟨#[]⟩) from rfl)
        have z1 := (blk_cell hx8 1).trans (show _ = some (Value.slice none 0 0) from rfl)
        exact bodyPost_ret (v := .tuple #[.agg #[.string ⟨#[]⟩, .slice none 0 0], .slice Av ns.length cv, .int .i64 rv]) (by simp [results, Tryz.results17, go_sem, z0, z1]) rfl (RPPost.of (nm := []) (l := []) hB6.out (BR.nil _ _) hR6.out hx6.out hg.out)
end Go.Proofs.YtkbkkceeolclmaaGreatDoor.X
