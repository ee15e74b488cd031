/- A rule's text, as the program writes it. The document's example. -/
import Derived.Test.YtkbkkceeolclmaaGreatDoorQ31
import Derived.Test.YtkbkkceeolclmaaGreatDoorQ35
import Derived.Test.YtkbkkceeolclmaaGreatDoorQ29
set_option linter.unusedVariables false
set_option linter.unusedSimpArgs false
namespace Go.TX
theorem goodL_take : ∀ {l : List Cd} (j : Nat), goodL l → goodL (l.take j)
  | [], j, _ => by simp [goodL]
  | x :: l, 0, _ => by simp [goodL]
  | x :: l, j + 1, h => by
    rw [List.take_succ_cons]
    exact ⟨h.1, goodL_take j h.2⟩
theorem cwordsL_snoc {ns : List (List UInt8)} {x : Cd} {a : List (List UInt8)} (hx : cwords ns x = some a) : ∀ {l : List Cd} {ws}, cwordsL ns l = some ws → cwordsL ns (l ++ [x]) = some (ws ++ a)
  | [], ws, h => by
    cases h
    simp [cwordsL, hx]
  | y :: l, ws, h => by
    unfold cwordsL at h
    split at h
    · rename_i u v h1 h2
      cases h
      have := cwordsL_snoc hx h2
      simp [cwordsL, h1, this]
    · cases h
theorem rchk_ok {nm : List UInt8} {l : List Cd} (h : rchk nm l = 0) : rightName (str nm) = true ∧ goodL l ∧ fullL l ∧ csizeL l ≤ 16 := by
  have h1 := good_of_rchk h
  refine ⟨h1.1, h1.2.2.1, ?_, h1.2.2.2⟩
  unfold rchk at h
  rw [if_neg (by rw [h1.1]; simp)] at h
  split at h
  · omega
  · split at h
    · rename_i h2
      exact absurd h h2
    · rename_i h2
      exact fullL_of_chk 1 l (by simpa using h2)
end Go.TX
namespace Go.Proofs.YtkbkkceeolclmaaGreatDoor.X
open Go.RowKit Go.TX Go.Proofs.YtkbkkceeolclmaaGreatDoorW.PrintWords Go.Proofs.YtkbkkceeolclmaaGreatDoorL
set_option maxRecDepth 100000 in
set_option maxHeartbeats 4000000 in
theorem rtext_walk {F : Nat → Prop} {tb : Nat} {ns : List (List UInt8)} (hN : ∀ s ∈ ns, s.length ≤ 32) (hlen : ns.length ≤ 1000000) (nm : List UInt8) (hnm : nm.length ≤ 1000) (l : List Cd) (A : Option Addr) (cap : Nat) (w : World) (G : Nat → Prop) (hs : csizeL l ≤ 1000)
    (hR : RepL evA w G l A 0) (hT : Tb w F tb ns) (hE : Env w) :
    Calls Tryz.prog 11 #[.agg #[.string (str nm), .slice A l.length cap], .pointer (some ⟨tb, 0, none⟩)] w fun e W => e = .returned (.tuple #[.string (str (rtext ns nm l).1), .int .i64 (rtext ns nm l).2]) ∧ Below w.heap.size w W := by
  have hll := csizeL_len l
  have hB0 := Aside0.mk ((Below.refl w.heap.size w).alloc (Nat.le_refl _) (.cells #[.string (str nm), .slice A l.length cap] 25))
  have hx0 := Aside0.mk (blk_new w (.cells #[.string (str nm), .slice A l.length cap] 25))
  replace hR := Aside0.mk hR
  replace hT := Aside0.mk hT
  replace hE := Aside0.mk hE
  obtain ⟨r, hr⟩ : ∃ r, rtext ns nm l = r := ⟨_, rfl⟩
  rw [hr]
  replace hr := Aside0.mk hr
  go_enter Tryz.func11, Tryz.ntmps11
  go_upto_region 1 with fail
  generalize w.alloc (.cells #[.string (str nm), .slice A l.length cap] 25) = W0 at hB0 hx0 ⊢
  have e0 := (blk_cell hx0.out 0).trans (show _ = some (Value.string (str nm)) from rfl)
  have e1 := (blk_cell hx0.out 1).trans (show _ = some (Value.slice A l.length cap) from rfl)
  have hck := Aside0.mk (rule_walk nm (by omega) l A cap W0 G (by omega) (hR.out.below hB0.out))
  generalize hc : rchk nm l = c at hck
  by_cases hc0 : c = 0
  · subst hc0
    obtain ⟨hrn, hgl, hfl, h16⟩ := rchk_ok hc
    have hrc : Aside0 (∀ ws, cwordsL ns l = some ws → r = (join (nm :: ws), 0)) := ⟨fun ws h => by rw [← hr.out]; unfold rtext; rw [if_neg (by rw [hc]; simp), h]⟩
    have hrn : Aside0 (cwordsL ns l = none → r = ([], 16)) := ⟨fun h => by rw [← hr.out]; unfold rtext; rw [if_neg (by rw [hc]; simp), h]⟩
    replace hgl := Aside0.mk hgl
    replace hfl := Aside0.mk hfl
    clear hc
    go_upto_region 5 with (go_at_call 28; refine hck.out.mono ?_; rintro e w1 ⟨rfl, hb⟩; have hx1 := (hb.block _ (blk_lt hx0.out)).trans hx0.out; have d0 := (blk_cell hx1 0).trans (show _ = some (Value.string (str nm)) from rfl); have d1 := (blk_cell hx1 1).trans (show _ = some (Value.slice A l.length cap) from rfl); replace hb := Aside0.mk (hB0.out.trans (hb.mono hB0.out.size)); clear hx1)
    clear hB0 hx0 e0 e1 hck
    go_wp2
    go_loopw [22, 7] (fun i S wr => ∃ (j : Nat) (ws : List (List UInt8)), i = .int .i64 j ∧ j ≤ l.length ∧ Below w.heap.size w wr ∧ cwordsL ns (l.take j) = some ws ∧ S = .string (str (nm ++ tail ws))) (fun i _ _ => l.length - (intOf i).toNat)
    case atStart => exact ⟨0, [], rfl, Nat.zero_le _, hb.out, rfl, by simp [tail]⟩
    case round =>
      obtain ⟨j, ws, rfl, hj, hBw, hws, rfl⟩ := hrel
      clear d0 d1 hb
      clear w1
      have hls := cwordsL_len hN _ ws (goodL_take j hgl.out) hws
      have hle16 := csizeL_take_le l j
      by_cases hlt : j < l.length
      · obtain ⟨b', o, k', x, y, z, subs', B, cap', rfl, hbl, hx, hlen', hR', htk, hle, c0, c1, c2, c3, c4, c5, c6, c7⟩ := sub_at (hR.out.below hBw) hlt
        have hAB : Below wr.heap.size wr (wr.alloc (oC evA 72 k' x y z (.slice B subs'.length cap'))) := (Below.refl _ _).alloc (Nat.le_refl _) _
        have hBW := Aside0.mk (hBw.trans (hAB.mono hBw.size))
        have hxW := Aside0.mk (blk_new wr (oC evA 72 k' x y z (.slice B subs'.length cap')))
        have hcall := Aside0.mk (cond_walk hN hlen (csizeL subs' + 1) k' x y z subs' B cap' (wr.alloc (oC evA 72 k' x y z (.slice B subs'.length cap'))) G (by omega) (by omega) (hx ▸ goodL_get j hlt hgl.out) (hx ▸ fullL_get j hlt hfl.out) (hR'.below hAB) (hT.out.below hBW.out) (hE.out.below hBW.out))
        have hSz : (str (nm ++ tail ws)).size ≤ 200000 := by
          rw [str_size, List.length_append]
          omega
        have hgj := goodL_get j hlt hgl.out
        have hcz : csize l[j] ≤ 16 := by rw [hx]; simp only [csize]; omega
        clear hBw hAB hR' htk hle hls
        go_upto_region 8 with fail
        generalize wr.alloc (oC evA 72 k' x y z (.slice B subs'.length cap')) = W at hBW hxW hcall ⊢
        generalize wr.heap.size = g at hxW ⊢
        clear c0 c1 c2 c3 c4 c5 c6 c7 hbl
        clear wr
        obtain ⟨d0, d1, d2, d3, d4, d5, d6, d7⟩ := box8 hxW.out
        cases hcw : cwords ns l[j] with
        | none =>
          obtain rfl := hrn.out (cwordsL_none hlt hcw)
          rw [← hx, hcw] at hcall
          clear hcw hws hgj hcz
          replace hx := Aside0.mk hx
          go_wp2_with (go_at_call 29; refine hcall.out.mono ?_; rintro e w2 ⟨rfl, hb⟩; replace hb := Aside0.mk hb)
          go_ret2
          exact ⟨rfl, hBW.out.trans (hb.out.mono hBW.out.size)⟩
        | some wj =>
          have htk : cwordsL ns (l.take (j + 1)) = some (ws ++ wj) := by
            rw [List.take_succ_eq_append_getElem hlt]
            exact cwordsL_snoc hcw hws
          have hlj := cwords_len hN _ wj hgj hcw
          have hjj := tail_join (cwords_ne ns _ wj hcw)
          have hSj : (str (join wj)).size ≤ 200000 := by
            rw [hjj, List.length_cons] at hlj
            rw [str_size]
            omega
          have hcat : Aside0 (str (nm ++ tail ws) ++ (⟨#[32]⟩ ++ str (join wj)) = str (nm ++ tail (ws ++ wj))) := ⟨by
            show str (nm ++ tail ws) ++ (str [32] ++ str (join wj)) = _
            rw [str_app, str_app, tail_app, hjj]
            simp⟩
          rw [← hx, hcw] at hcall
          simp only [Option.map_some, Option.getD_some, Option.isSome_some] at hcall
          replace hx := Aside0.mk hx
          replace htk := Aside0.mk htk
          clear hcw hws hgj hcz hlj hjj
          generalize str (join wj) = S2 at hSj hcat hcall
          generalize str (nm ++ tail ws) = S1 at hSz hcat ⊢
          go_wp2_with (go_at_call 29; refine hcall.out.mono ?_; rintro e w2 ⟨rfl, hb⟩; replace hb := Aside0.mk hb)
          go_roundw
          case rel => exact ⟨j + 1, ws ++ wj, by go_num, by omega, hBW.out.trans (hb.out.mono hBW.out.size), htk.out, by rw [← hcat.out]⟩
          case measure => simp [intOf]; omega
      · obtain rfl : j = l.length := by omega
        rw [List.take_length] at hws
        obtain rfl := hrc.out ws hws
        have hcat : Aside0 (nm ++ tail ws = join (nm :: ws)) := ⟨by rw [join_cons]; rfl⟩
        replace hBw := Aside0.mk hBw
        clear hws hls
        go_wp2
        go_ret2
        exact ⟨by rw [← hcat.out]; rfl, hBw.out⟩
  · have hv1 : (c != 0) = true := bne_iff_ne.2 hc0
    obtain rfl : r = ([], c) := by rw [← hr.out]; unfold rtext; rw [if_pos (by rw [hc]; exact hc0), hc]
    replace hc := Aside0.mk hc
    go_wp2_with (go_at_call 28; refine hck.out.mono ?_; rintro e w1 ⟨rfl, hb⟩; replace hb := Aside0.mk (hB0.out.trans (hb.mono hB0.out.size)))
    go_ret2
    exact ⟨rfl, hb.out⟩
end Go.Proofs.YtkbkkceeolclmaaGreatDoor.X
namespace Go.TX
open Go.Lib
def awS : List UInt8 := [117, 112, 32, 40, 63, 49, 32, 111, 110, 32, 63, 50, 41, 32, 45, 40, 63, 50, 32, 111, 110, 32, 63, 51, 41, 32, 45, 123, 32, 40, 63, 50, 32, 105, 115, 32, 114, 101, 100, 41, 32, 125]
def awC : List Cd := [.mk 1 (true, 1) (false, 1) (true, 2) [], .mk 2 (true, 2) (false, 1) (true, 3) [], .mk 3 (false, 0) (false, 0) (false, 0) [.mk 1 (true, 2) (false, 2) (false, 3) []]]
def awN : List (List UInt8) := [[111, 110], [105, 115], [114, 101, 100]]
theorem aw_parse : rparse [] awS = (([117, 112], awC), awN, 0) := by kernel_rfl
theorem aw_text : rtext awN [117, 112] awC = (awS, 0) := by kernel_rfl
theorem aw_size : csizeL awC = 4 := by kernel_rfl
end Go.TX
namespace Go.Proofs.YtkbkkceeolclmaaGreatDoor.X
open Go.RowKit Go.TX Go.Proofs.YtkbkkceeolclmaaGreatDoorW.PrintWords Go.Proofs.YtkbkkceeolclmaaGreatDoorL
attribute [local go_sem] YReg.envOf
set_option maxRecDepth 100000 in
set_option maxHeartbeats 4000000 in
theorem awake_walk (w : World) (hE : Env w) : Calls Tryz.prog 10 #[] w fun e W => e = .returned (.bool true) ∧ Below w.heap.size w W := by
  have h20 := Aside0.mk (new20 w)
  replace hE := Aside0.mk hE
  go_enter Tryz.func10, Tryz.ntmps10
  go_upto_region 4 with (go_at_call 20; refine h20.out.mono ?_; rintro e w1 ⟨t, rfl, hb1, ht1⟩; replace hb1 := Aside0.mk hb1; replace ht1 := Aside0.mk ht1)
  have hp := parse_walk ht1.out (fun b q => q.2) names_nil (by decide) (hE.out.below hb1.out) awS (by decide)
  rw [aw_parse] at hp
  replace hp : Calls Tryz.prog 14 #[.string ⟨#[117, 112, 32, 40, 63, 49, 32, 111, 110, 32, 63, 50, 41, 32, 45, 40, 63, 50, 32, 111, 110, 32, 63, 51, 41, 32, 45, 123, 32, 40, 63, 50, 32, 105, 115, 32, 114, 101, 100, 41, 32, 125]⟩, .pointer (some ⟨t, 0, none⟩)] w1 (PPost w1 _ t (([117, 112], awC), awN, 0)) := hp
  replace hp := Aside0.mk hp
  clear h20
  go_upto_region 5 with (go_at_call 14; refine hp.out.mono ?_; rintro e w2 ⟨V, rfl, hfr, ⟨T', hT', htb⟩, hbx⟩; obtain ⟨A, cap, rfl, hrd⟩ := hbx.reads; replace hfr := Aside0.mk hfr; replace htb := Aside0.mk htb; replace hbx := Aside0.mk hbx)
  have hB2 := Aside0.mk (hb1.out.trans (hfr.out.below hb1.out.size (fun b q => q.1)))
  have hA3 := (Below.refl w2.heap.size w2).alloc (Nat.le_refl _) (.cells #[.string (str [117, 112]), .slice A awC.length cap] 25)
  have hn3 := blk_new w2 (.cells #[.string (str [117, 112]), .slice A awC.length cap] 25)
  have hB3 := Aside0.mk (hB2.out.trans (hA3.mono hB2.out.size))
  have ht3 := Aside0.mk (htb.out.below hA3)
  have hr3 := Aside0.mk (hrd.below hA3)
  clear hfr hp hbx hrd hb1 ht1
  replace hr3 : Aside0 (RepL evA (w2.alloc (.cells #[.string (str [117, 112]), .slice A 3 cap] 25)) _ awC A 0) := hr3
  have hrt := rtext_walk (ns := awN) (by decide) (by decide) [117, 112] (by decide) awC A cap _ _ (by rw [aw_size]; decide) hr3.out ht3.out (hE.out.of hB3.out (Nat.le_refl _))
  rw [aw_text] at hrt
  replace hrt : Calls Tryz.prog 11 #[.agg #[.string (str [117, 112]), .slice A 3 cap], .pointer (some ⟨t, 0, none⟩)] (w2.alloc (.cells #[.string (str [117, 112]), .slice A 3 cap] 25)) fun e W => e = .returned (.tuple #[.string ⟨#[117, 112, 32, 40, 63, 49, 32, 111, 110, 32, 63, 50, 41, 32, 45, 40, 63, 50, 32, 111, 110, 32, 63, 51, 41, 32, 45, 123, 32, 40, 63, 50, 32, 105, 115, 32, 114, 101, 100, 41, 32, 125]⟩, .int .i64 0]) ∧ Below (w2.alloc (.cells #[.string (str [117, 112]), .slice A 3 cap] 25)).heap.size (w2.alloc (.cells #[.string (str [117, 112]), .slice A 3 cap] 25)) W := hrt
  replace hB3 : Aside0 (Below w.heap.size w (w2.alloc (.cells #[.string (str [117, 112]), .slice A 3 cap] 25))) := hB3
  replace ht3 : Aside0 (Tb (w2.alloc (.cells #[.string (str [117, 112]), .slice A 3 cap] 25)) T' t awN) := ht3
  replace hn3 : (w2.alloc (.cells #[.string (str [117, 112]), .slice A 3 cap] 25)).heap[w2.heap.size]? = some (.cells #[.string (str [117, 112]), .slice A 3 cap] 25 (0, 0)) := hn3
  clear hA3 hr3 htb hB2
  replace hrt := Aside0.mk hrt
  have hl : awC.length = 3 := rfl
  rw [hl]
  clear hl
  generalize w2.alloc (.cells #[.string (str [117, 112]), .slice A 3 cap] 25) = W3 at hrt hB3 ht3 hn3 ⊢
  generalize w2.heap.size = g at hn3 ⊢
  have d0 := (blk_cell hn3 0).trans (show _ = some (Value.string (str [117, 112])) from rfl)
  have d1 := (blk_cell hn3 1).trans (show _ = some (Value.slice A 3 cap) from rfl)
  have hbx := Aside0.mk hn3
  clear hn3
  go_upto_region 6 with (go_at_call 11; refine hrt.out.mono ?_; rintro e w4 ⟨rfl, hb4⟩; have ht4 := Aside0.mk (ht3.out.below hb4); have hx4 := (hb4.block g (blk_lt hbx.out)).trans hbx.out; have e1 := (blk_cell hx4 1).trans (show _ = some (Value.slice A 3 cap) from rfl); replace hb4 := Aside0.mk hb4; clear hx4)
  have h19 := len_walk ht4.out
  replace h19 : Calls Tryz.prog 19 #[.pointer (some ⟨t, 0, none⟩)] w4 fun e W => e = .returned (.int .i64 3) ∧ w4 = W := h19
  replace h19 := Aside0.mk h19
  clear d0 d1
  go_wp2_with (go_at_call 19; refine h19.out.mono ?_; rintro e w5 ⟨rfl, rfl⟩)
  go_ret
  exact ⟨rfl, hB3.out.trans (hb4.out.mono hB3.out.size)⟩
end Go.Proofs.YtkbkkceeolclmaaGreatDoor.X
