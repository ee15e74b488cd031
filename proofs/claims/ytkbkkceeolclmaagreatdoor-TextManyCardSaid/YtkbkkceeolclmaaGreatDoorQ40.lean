/- The document's example. The law TextTriples. A condition's text, as the document writes it. A rule's text, as the document writes it. The document's rule. -/
import Derived.Deep.QuietTactic
import Derived.BigQuiet
import Derived.Laws.StructEq
import Derived.Laws.Tables
import Derived.Laws.Cover2
import Derived.Test.YtkbkkceeolclmaaGreatDoorQ38
import Derived.Test.YtkbkkceeolclmaaGreatDoorQ34
import Derived.Test.YtkbkkceeolclmaaGreatDoorQ39
import Derived.Test.YtkbkkceeolclmaaGreatDoorQ36
import Derived.Test.YtkbkkceeolclmaaGreatDoorQ13
set_option linter.unusedVariables false
set_option linter.unusedSimpArgs false
namespace Go.TX
open Go.Lib
def awS : List UInt8 := [117, 112, 32, 40, 63, 49, 32, 111, 110, 32, 63, 50, 41, 32, 45, 40, 63, 50, 32, 111, 110, 32, 63, 51, 41, 32, 45, 123, 32, 40, 63, 50, 32, 105, 115, 32, 114, 101, 100, 41, 32, 125]
def awC : List Cd := [.mk 1 (true, 1) (false, 1) (true, 2) [], .mk 2 (true, 2) (false, 1) (true, 3) [], .mk 3 (false, 0) (false, 0) (false, 0) [.mk 1 (true, 2) (false, 2) (false, 3) []]]
def awN : List (List UInt8) := [[111, 110], [105, 115], [114, 101, 100]]
theorem aw_parse : rparse [] awS = (([117, 112], awC), awN, 0) := by kernel_rfl
theorem aw_text : rtext awN [117, 112] awC = (awS, 0) := by kernel_rfl
theorem aw_size : csizeL awC = 4 := by kernel_rfl
end Go.TX
namespace Go.Proofs.YtkbkkceeolclmaaGreatDoor.X
open Go.RowKit Go.TX Go.Proofs.YtkbkkceeolclmaaGreatDoorW.PrintWords Go.Proofs.YtkbkkceeolclmaaGreatDoorL
attribute [local go_sem] YReg.envOf
set_option maxRecDepth 100000 in
set_option maxHeartbeats 4000000 in
theorem awake_walk (w : World) (hE : Env w) : Calls Tryz.prog 10 #[] w fun e W => e = .returned (.bool true) ∧ Below w.heap.size w W := by
  have h20 := Aside0.mk (new20 w)
  replace hE := Aside0.mk hE
  go_enter Tryz.func10, Tryz.ntmps10
  go_upto_region 4 with (go_at_call 20; refine h20.out.mono ?_; rintro e w1 ⟨t, rfl, hb1, ht1⟩; replace hb1 := Aside0.mk hb1; replace ht1 := Aside0.mk ht1)
  have hp := parse_walk ht1.out (fun b q => q.2) names_nil (by decide) (hE.out.below hb1.out) awS (by decide)
  rw [aw_parse] at hp
  replace hp : Calls Tryz.prog 14 #[.string ⟨#[117, 112, 32, 40, 63, 49, 32, 111, 110, 32, 63, 50, 41, 32, 45, 40, 63, 50, 32, 111, 110, 32, 63, 51, 41, 32, 45, 123, 32, 40, 63, 50, 32, 105, 115, 32, 114, 101, 100, 41, 32, 125]⟩, .pointer (some ⟨t, 0, none⟩)] w1 (PPost w1 _ t (([117, 112], awC), awN, 0)) := hp
  replace hp := Aside0.mk hp
  clear h20
  go_upto_region 5 with (go_at_call 14; refine hp.out.mono ?_; rintro e w2 ⟨V, rfl, hfr, ⟨T', hT', htb⟩, hbx⟩; obtain ⟨A, cap, rfl, hrd⟩ := hbx.reads; replace hfr := Aside0.mk hfr; replace htb := Aside0.mk htb; replace hbx := Aside0.mk hbx)
  have hB2 := Aside0.mk (hb1.out.trans (hfr.out.below hb1.out.size (fun b q => q.1)))
  have hA3 := (Below.refl w2.heap.size w2).alloc (Nat.le_refl _) (.cells #[.string (str [117, 112]), .slice A awC.length cap] 25)
  have hn3 := blk_new w2 (.cells #[.string (str [117, 112]), .slice A awC.length cap] 25)
  have hB3 := Aside0.mk (hB2.out.trans (hA3.mono hB2.out.size))
  have ht3 := Aside0.mk (htb.out.below hA3)
  have hr3 := Aside0.mk (hrd.below hA3)
  clear hfr hp hbx hrd hb1 ht1
  replace hr3 : Aside0 (RepL evA (w2.alloc (.cells #[.string (str [117, 112]), .slice A 3 cap] 25)) _ awC A 0) := hr3
  have hrt := rtext_walk (ns := awN) (by decide) (by decide) [117, 112] (by decide) awC A cap _ _ (by rw [aw_size]; decide) hr3.out ht3.out (hE.out.of hB3.out (Nat.le_refl _))
  rw [aw_text] at hrt
  replace hrt : Calls Tryz.prog 11 #[.agg #[.string (str [117, 112]), .slice A 3 cap], .pointer (some ⟨t, 0, none⟩)] (w2.alloc (.cells #[.string (str [117, 112]), .slice A 3 cap] 25)) fun e W => e = .returned (.tuple #[.string ⟨#[117, 112, 32, 40, 63, 49, 32, 111, 110, 32, 63, 50, 41, 32, 45, 40, 63, 50, 32, 111, 110, 32, 63, 51, 41, 32, 45, 123, 32, 40, 63, 50, 32, 105, 115, 32, 114, 101, 100, 41, 32, 125]⟩, .int .i64 0]) ∧ Below (w2.alloc (.cells #[.string (str [117, 112]), .slice A 3 cap] 25)).heap.size (w2.alloc (.cells #[.string (str [117, 112]), .slice A 3 cap] 25)) W := hrt
  replace hB3 : Aside0 (Below w.heap.size w (w2.alloc (.cells #[.string (str [117, 112]), .slice A 3 cap] 25))) := hB3
  replace ht3 : Aside0 (Tb (w2.alloc (.cells #[.string (str [117, 112]), .slice A 3 cap] 25)) T' t awN) := ht3
  replace hn3 : (w2.alloc (.cells #[.string (str [117, 112]), .slice A 3 cap] 25)).heap[w2.heap.size]? = some (.cells #[.string (str [117, 112]), .slice A 3 cap] 25 (0, 0)) := hn3
  clear hA3 hr3 htb hB2
  replace hrt := Aside0.mk hrt
  have hl : awC.length = 3 := rfl
  rw [hl]
  clear hl
  generalize w2.alloc (.cells #[.string (str [117, 112]), .slice A 3 cap] 25) = W3 at hrt hB3 ht3 hn3 ⊢
  generalize w2.heap.size = g at hn3 ⊢
  have d0 := (blk_cell hn3 0).trans (show _ = some (Value.string (str [117, 112])) from rfl)
  have d1 := (blk_cell hn3 1).trans (show _ = some (Value.slice A 3 cap) from rfl)
  have hbx := Aside0.mk hn3
  clear hn3
  go_upto_region 6 with (go_at_call 11; refine hrt.out.mono ?_; rintro e w4 ⟨rfl, hb4⟩; have ht4 := Aside0.mk (ht3.out.below hb4); have hx4 := (hb4.block g (blk_lt hbx.out)).trans hbx.out; have e1 := (blk_cell hx4 1).trans (show _ = some (Value.slice A 3 cap) from rfl); replace hb4 := Aside0.mk hb4; clear hx4)
  have h19 := len_walk ht4.out
  replace h19 : Calls Tryz.prog 19 #[.pointer (some ⟨t, 0, none⟩)] w4 fun e W => e = .returned (.int .i64 3) ∧ w4 = W := h19
  replace h19 := Aside0.mk h19
  clear d0 d1
  go_wp2_with (go_at_call 19; refine h19.out.mono ?_; rintro e w5 ⟨rfl, rfl⟩)
  go_ret
  exact ⟨rfl, hB3.out.trans (hb4.out.mono hB3.out.size)⟩
end Go.Proofs.YtkbkkceeolclmaaGreatDoor.X
namespace Go.Proofs.YtkbkkceeolclmaaGreatDoor.X
open Go.RowKit Go.TX Go.Proofs.YtkbkkceeolclmaaGreatDoorW.PrintWords Go.Proofs.YtkbkkceeolclmaaGreatDoorL
theorem eq56 (n : Nat) (a b c d e f : Int) (w : World) : (Op.equalIn (n + 2) 56 (.agg #[.int .i64 a, .int .i64 b, .int .i64 c]) (.agg #[.int .i64 d, .int .i64 e, .int .i64 f])).run Tryz.prog w = .ok (a == d && (b == e && c == f)) w := by
  have u3 := Tryz.underlying3
  have a3 := Tryz.isAgg3
  have z3 := Tryz.sizeOf3
  rw [Op.equalIn]
  simp only [Sem.run_bind, run_underlying Tryz.underlying56, Result.andThen_ok]
  simp only [Std.Legacy.Range.forIn_eq_forIn_range', Std.Legacy.Range.size, Nat.sub_zero, Nat.add_sub_cancel, Nat.div_one, List.range'_succ, List.range'_zero, List.forIn_cons, List.forIn_nil]
  go_simp
  by_cases h1 : a = d <;> by_cases h2 : b = e <;> by_cases h3 : c = f <;> simp [h1, h2, h3]
theorem eq56s (n : Nat) (a b c : Int) (w : World) : (Op.equalIn (n + 2) 56 (.agg #[.int .i64 a, .int .i64 b, .int .i64 c]) (.agg #[.int .i64 a, .int .i64 b, .int .i64 c])).run Tryz.prog w = .ok true w := by rw [eq56]; simp
attribute [local go_sem high] eq56s ia560 ia561 ia562
attribute [local go_sem] YReg.envOf
theorem TS.below {w W W2 : World} {t : Nat} {v : Value} {ns : List (List UInt8)} (h : TS w W t v ns) (hb : Below W.heap.size W W2) : TS w W2 t v ns := by
  obtain ⟨T, P, h1, h2, h3, h4, h5, h6⟩ := h
  exact ⟨T, P, h1.below hb, h2.below hb, fun b q => ⟨(h3 b q).1, Nat.lt_of_lt_of_le (h3 b q).2 hb.size⟩, fun b q => ⟨(h4 b q).1, Nat.lt_of_lt_of_le (h4 b q).2 hb.size⟩, h5, h6.trans (hb.mono h6.size)⟩
/-- The table has been read again; its names, and the document's. -/
theorem TS.fr {w W W2 : World} {T T' P : Nat → Prop} {t : Nat} {v : Value} {ns now : List (List UInt8)} (hP : DN w.heap.size P W v ns) (hTb : ∀ b, T b → w.heap.size ≤ b ∧ b < W.heap.size) (hPb : ∀ b, P b → w.heap.size ≤ b ∧ b < W.heap.size) (hTP : ∀ b, T b → ¬ P b) (hB : Below w.heap.size w W)
    (hf : Fr W W2 T) (hT' : ∀ b, T' b → T b ∨ W.heap.size ≤ b) (ht : Tb W2 T' t now) : (now = ns → TS w W2 t v ns) ∧ RN W2 v ns ∧ Below w.heap.size w W2 ∧ (∀ b, T' b → w.heap.size ≤ b) := by
  have hP2 : DN w.heap.size P W2 v ns := hP.step fun b q hl => hf.ch.block b hl (fun q2 => hTP b q2 q)
  have hB2 : Below w.heap.size w W2 := hB.trans (hf.below hB.size (fun b q => (hTb b q).1))
  have hz := hf.ch.size
  refine ⟨fun e => ?_, RN.of hP2, hB2, fun b q => (hT' b q).elim (fun q => (hTb b q).1) (fun q => Nat.le_trans hB.size q)⟩
  subst e
  have h2 := tight' ht
  exact ⟨_, P, h2, hP2, fun b q => ⟨(hT' b q.1).elim (fun q => (hTb b q).1) (fun q => Nat.le_trans hB.size q), q.2⟩, fun b q => ⟨(hPb b q).1, Nat.lt_of_lt_of_le (hPb b q).2 hz⟩, fun b q p => (hT' b q.1).elim (fun q => hTP b q p) (fun q => by have := (hPb b p).2; omega), hB2⟩
end Go.Proofs.YtkbkkceeolclmaaGreatDoor.X
namespace Go.TX
end Go.TX
namespace Go.Proofs.YtkbkkceeolclmaaGreatDoor.X
open Go.RowKit Go.TX Go.Proofs.YtkbkkceeolclmaaGreatDoorW.PrintWords Go.Proofs.YtkbkkceeolclmaaGreatDoorL
end Go.Proofs.YtkbkkceeolclmaaGreatDoor.X
namespace Go.Proofs.YtkbkkceeolclmaaGreatDoor.X
open Go.RowKit Go.TX Go.Proofs.YtkbkkceeolclmaaGreatDoorW.PrintWords Go.Proofs.YtkbkkceeolclmaaGreatDoorL
end Go.Proofs.YtkbkkceeolclmaaGreatDoor.X
namespace Go.Proofs.YtkbkkceeolclmaaGreatDoor.X
open Go.RowKit Go.TX Go.Proofs.YtkbkkceeolclmaaGreatDoorW.PrintWords Go.Proofs.YtkbkkceeolclmaaGreatDoorL
abbrev o38 (s : ByteArray) (S : Value) : Obj := .cells #[.string s, S] 38
abbrev z38 : Obj := .cells #[.string ⟨#[]⟩, .slice none 0 0] 38
abbrev o25 (s : ByteArray) (S : Value) : Obj := .cells #[.string s, S] 25
attribute [local go_sem] YReg.envOf
set_option maxRecDepth 100000 in
set_option maxHeartbeats 4000000 in
theorem ref13 (n : Nat) (name : ByteArray) (subs : List Cd) (A : Option Addr) (cap : Nat) (w : World) (F : Nat → Prop) (hn : csizeL subs < n) (hn1 : n ≤ 1000000) (hR : RepL evA w F subs A 0) :
    Calls Tryz.prog 13 #[.agg #[.string name, .slice A subs.length cap]] w fun e W => ∃ S, e = .returned (.agg #[.string name, S]) ∧ YReg.Ext w W ∧ BR w.heap.size W S subs := by
  obtain ⟨i0, hi, hz0, hz1, hz2⟩ := info_parts info81
  replace hi := Aside0.mk hi
  replace hz0 := Aside0.mk hz0
  replace hz1 := Aside0.mk hz1
  replace hz2 := Aside0.mk hz2
  have hlen := csizeL_len subs
  have hmax : 1000000 ≤ maxLen := by decide
  have hB0 := Aside0.mk ((((Below.refl w.heap.size w).alloc (Nat.le_refl _) (o25 name (.slice A subs.length cap))).alloc (by simp) z38).alloc (by simp; omega) (o38 name (.slice none 0 0)))
  have hp0 := blk_alloc (blk_alloc (blk_new w (o25 name (.slice A subs.length cap))) z38) (o38 name (.slice none 0 0))
  have ho0 := blk_alloc (blk_new (w.alloc (o25 name (.slice A subs.length cap))) z38) (o38 name (.slice none 0 0))
  have hg0 := blk_new ((w.alloc (o25 name (.slice A subs.length cap))).alloc z38) (o38 name (.slice none 0 0))
  simp only [World.size_alloc] at ho0 hg0
  replace hp0 := Aside0.mk hp0
  replace ho0 := Aside0.mk ho0
  replace hg0 := Aside0.mk hg0
  replace hR := Aside0.mk hR
  go_enter Tryz.func13, Tryz.ntmps13
  go_upto_region 3 with fail
  generalize ((w.alloc (o25 name (.slice A subs.length cap))).alloc z38).alloc (o38 name (.slice none 0 0)) = V at hB0 hp0 ho0 hg0 ⊢
  have hgw := Aside0.mk (show w.heap.size < w.heap.size + 1 + 1 by omega)
  have hgo := Aside0.mk (show w.heap.size + 1 < w.heap.size + 1 + 1 by omega)
  generalize w.heap.size + 1 + 1 = g at hgw hgo hg0 ⊢
  go_loopw [12] (fun i wr => ∃ (j : Nat) (v : Value), i = .int .i64 j ∧ j ≤ subs.length ∧ wr.heap[g]? = some (o38 name v) ∧ BR (g + 1) wr v (subs.take j) ∧ Below w.heap.size w wr ∧ wr.heap[w.heap.size + 1]? = some z38) (fun i _ => subs.length - (intOf i).toNat)
  case atStart => exact ⟨0, _, rfl, Nat.zero_le _, hg0.out, BR.nil _ _, hB0.out, ho0.out⟩
  case round =>
    obtain ⟨j, v, rfl, hj, hgr, hbr, hBw, hor⟩ := hrel
    clear hB0 hg0 hp0 ho0
    clear V
    have hgl := blk_lt hgr
    obtain ⟨A', cp, rfl⟩ : ∃ A' cp, v = .slice A' j cp := by
      obtain ⟨A', cp, e⟩ := hbr.form
      rw [List.length_take_of_le hj] at e
      exact ⟨A', cp, e⟩
    by_cases hlt : j < subs.length
    · obtain ⟨b', o, k', x, y, z, subs', B, cap', rfl, hbl, hx, hlen', hR', htk, hle, c0, c1, c2, c3, c4, c5, c6, c7⟩ := sub_at (hR.out.below hBw) hlt
      have hAB : Below wr.heap.size wr (wr.alloc (oC evA 72 k' x y z (.slice B subs'.length cap'))) := (Below.refl _ _).alloc (Nat.le_refl _) _
      have hBW := Aside0.mk (hBw.trans (hAB.mono hBw.size))
      have hRW := Aside0.mk (hR'.below hAB)
      have hgW := Aside0.mk (blk_alloc hgr (oC evA 72 k' x y z (.slice B subs'.length cap')))
      have hoW := Aside0.mk (blk_alloc hor (oC evA 72 k' x y z (.slice B subs'.length cap')))
      have hxW := Aside0.mk (blk_new wr (oC evA 72 k' x y z (.slice B subs'.length cap')))
      have hbW := Aside0.mk (hbr.below hAB)
      have hih := Aside0.mk (ref32 n k' x y z subs' B cap')
      have hls : csizeL subs' < n := by omega
      replace hx := Aside0.mk hx
      replace hgl := Aside0.mk hgl
      replace hls := Aside0.mk hls
      replace hlen' := Aside0.mk hlen'
      clear hgr hor hbr hBw hAB hR' htk hle
      go_upto_region 5 with fail
      generalize wr.alloc (oC evA 72 k' x y z (.slice B subs'.length cap')) = W at hBW hRW hgW hoW hxW hbW ⊢
      clear c0 c1 c2 c3 c4 c5 c6 c7 hbl
      generalize hnw : wr.heap.size = nw at hxW hgl ⊢
      clear hnw
      clear wr
      have t0 : ∀ W', YReg.Ext W.drew W' → W'.cell? ⟨g, 1, none⟩ = some (.slice A' j cp) := fun W' h => (blk_cell ((h.of_drew.block _ (blk_lt hgW.out)).trans hgW.out) 1).trans rfl
      have bx := fun W' (h : YReg.Ext W.drew W') => box8 ((h.of_drew.block _ (blk_lt hxW.out)).trans hxW.out)
      have s0 : ∀ W', YReg.Ext W.drew W' → W'.cell? ⟨nw, 0, none⟩ = some (.int .i64 k') := fun W' h => (bx W' h).1
      have s1 : ∀ W', YReg.Ext W.drew W' → W'.cell? ⟨nw, 1, none⟩ = some (.bool x.1) := fun W' h => (bx W' h).2.1
      have s2 : ∀ W', YReg.Ext W.drew W' → W'.cell? ⟨nw, 2, none⟩ = some (.int .i64 x.2) := fun W' h => (bx W' h).2.2.1
      have s3 : ∀ W', YReg.Ext W.drew W' → W'.cell? ⟨nw, 3, none⟩ = some (.bool y.1) := fun W' h => (bx W' h).2.2.2.1
      have s4 : ∀ W', YReg.Ext W.drew W' → W'.cell? ⟨nw, 4, none⟩ = some (.int .i64 y.2) := fun W' h => (bx W' h).2.2.2.2.1
      have s5 : ∀ W', YReg.Ext W.drew W' → W'.cell? ⟨nw, 5, none⟩ = some (.bool z.1) := fun W' h => (bx W' h).2.2.2.2.2.1
      have s6 : ∀ W', YReg.Ext W.drew W' → W'.cell? ⟨nw, 6, none⟩ = some (.int .i64 z.2) := fun W' h => (bx W' h).2.2.2.2.2.2.1
      have s7 : ∀ W', YReg.Ext W.drew W' → W'.cell? ⟨nw, 7, none⟩ = some (.slice B subs'.length cap') := fun W' h => (bx W' h).2.2.2.2.2.2.2
      clear bx
      have hRn : n ≤ 1000000 := hn1
      have k32 : Aside0 (∀ W', YReg.Ext W.drew W' → Calls Tryz.prog 32 #[aC evA k' x y z (.slice B subs'.length cap')] W' fun e W2 => ∃ u, e = .returned u ∧ YReg.Ext W' W2 ∧ IsC W.heap.size k' x y z subs' u W2) := ⟨fun W' h => (hih.out W' F hls.out hRn (hRW.out.below h.of_drew)).mono fun e W2 ⟨u, h1, h2, h3⟩ => ⟨u, h1, h2, h3.base h.of_drew.size⟩⟩
      refine YReg.wp_region_tail 5 none YReg.Ext YReg.Ext YReg.Ext.refl YReg.Ext.trans YReg.Ext.trans (fun _ _ h => h) (by kernel_rfl) (by kernel_rfl) (by kernel_rfl) [(3, .det (.pointer (some ⟨g, 0, none⟩))), (5, .det (.pointer (some ⟨nw, 0, none⟩)))] (YReg.base_cons rfl (YReg.base_cons rfl YReg.base_nil)) ?_
      simp only [List.take_succ_cons, List.take_zero, List.drop_succ_cons, List.drop_zero]
      repeat (first
        | (refine YReg.walk_calln (by decide) IsC.up k32.out rfl (by kernel_rfl) (by kernel_rfl) _ rfl (by kernel_rfl) (by kernel_rfl) ?_)
        | (refine YReg.run_1 (by decide) YReg.Ext.refl rfl rfl _ rfl (by kernel_rfl) (by kernel_rfl) ?_; apply Exists.intro; refine ⟨fun ρ W hE h1 => ?_, ?_⟩; (go_simp; try rfl))
        | (refine YReg.nd_1n (by decide) (InC 81 W.heap.size k' x y z subs') InC.up rfl rfl (fun ρ W1 hE ⟨S, e1, h2⟩ => by obtain ⟨a0, c0, e⟩ := h2.form; subst e; exact ⟨_, _, by (go_simp; try rfl), (Below.refl _ W1).alloc (Nat.le_refl _) _, W1.heap.size, _, rfl, blk_new _ _, h2.below ((Below.refl _ W1).alloc (Nat.le_refl _) _), by simp⟩) _ rfl (by kernel_rfl) (by kernel_rfl) ?_))
      intro ρ W' hE hn
      obtain ⟨⟨_, hc1⟩, gb, S, e23, hgb, hS, hgbl⟩ := hn
      have hBe := hE.of_drew
      obtain ⟨A2, c2, rfl⟩ := hS.form
      have hB' := Aside0.mk (hBW.out.trans (hBe.mono hBW.out.size))
      have hgl' := Nat.lt_of_lt_of_le (blk_lt hgW.out) hBe.size
      have hg' := Aside0.mk ((hBe.block _ (blk_lt hgW.out)).trans hgW.out)
      have ho' := Aside0.mk ((hBe.block _ (blk_lt hoW.out)).trans hoW.out)
      have hb' := hbW.out.below hBe
      obtain ⟨css, hcl, hco, hcr⟩ := hb'
      have hlt' := List.length_take_of_le hj
      rw [hlt'] at hco
      have hown : Aside0 (∀ b, Value.ownBlock (.slice A' j cp) = some b → b < W.heap.size) := by
        obtain ⟨css2, _, hco2, _⟩ := hbW.out
        exact ⟨fun b hb => (owner_lt hco2 hb).2⟩
      replace hS := Aside0.mk hS
      have hgb' := Aside0.mk hgb
      replace hcl := Aside0.mk hcl
      replace hcr := Aside0.mk hcr
      have hgW2 := Aside0.mk (Nat.lt_of_lt_of_le (blk_lt hgW.out) (Nat.le_refl _))
      have hgs : g + 1 ≤ W'.heap.size := hgl'
      simp only [e23]
      clear hE hc1 hgb hgbl k32 t0 s0 s1 s2 s3 s4 s5 s6 s7 hBe hgW hoW hxW hbW hBW hRW hih e23
      generalize ρ 22 = x22
      simp only [Act.put, List.setIfInBounds_toArray, List.set_cons_zero, List.set_cons_succ]
      replace hlt' := Aside0.mk hlt'
      have hj1 : j + 1 ≤ maxLen := by omega
      have hj2 : (j + 1) * 80 ≤ 140737488355328 := by omega
      go_wp2_with (at_builtin; refine wpList_append_own2 rfl _ _ 36 rfl (g + 1) 81 i0 (aC evR 0 (false, 0) (false, 0) (false, 0) (.slice none 0 0)) 8 80 Tryz.underlying36 hi.out hz0.out hz1.out hz2.out rfl (by decide) _ j css.flatten rfl hco ⟨gb, 0, none⟩ 1 1 [.int .i64 k', evR x.1, .int .i64 x.2, evR y.1, .int .i64 y.2, evR z.1, .int .i64 z.2, .slice A2 subs'.length c2] rfl (by decide) rfl (cells_at hgb'.out) (by simp [Value.oneCell']) hj1 hj2 hgs ?_; intro v3 w3 hown3 hgr3 hfr3; obtain ⟨A3, c3, rfl⟩ := owns_form hown3; have hg3 := (hgr3.block g hgl' (fun e => by have := (owner_lt hco e.symm).1; omega)).trans hg'.out; have f7 := blk_frozen hg3 1; have p7 := (blk_cell hg3 1).trans (show _ = some (Value.slice A' j cp) from rfl); replace hg3 := Aside0.mk hg3; replace hown3 := Aside0.mk hown3; replace hgr3 := Aside0.mk hgr3; replace hfr3 := Aside0.mk hfr3)
      go_roundw
      case rel =>
        have htk : subs.take (j + 1) = subs.take j ++ [.mk k' x y z subs'] := by rw [List.take_succ_eq_append_getElem hlt, hx.out]
        have hcount := hlt'.out
        refine ⟨j + 1, .slice A3 (j + 1) c3, by go_num, by omega, blk_put hg3.out 1 _ rfl, ?_, ?_, ?_⟩
        · rw [htk]
          refine (BR.snoc hcl.out (v := .slice A' j cp) (by rw [hcount]; exact hco) hcr.out rfl (hS.out.rep hlen'.out) hgW2.out hown.out (by rw [hcount]; exact hown3.out) hgr3.out hfr3.out).far (fun b hb hl => Below.heap_setCell _ _ _ _ (by show b ≠ g; omega))
        · exact (hB'.out.grown hgr3.out (by have := hgw.out; omega) (fun b hb => by have := (owner_lt hco hb).1; have := hgw.out; omega)).setCell (p := ⟨g, 1, none⟩) (Nat.le_of_lt hgw.out) _
        · exact blk_far ((hgr3.out.block (w.heap.size + 1) (by have := hgo.out; omega) (fun e => by have := (owner_lt hco e.symm).1; have := hgo.out; omega)).trans ho'.out) (p := ⟨g, 1, none⟩) (Nat.ne_of_lt hgo.out) _
      case measure => simp [intOf]; omega
    · obtain rfl : j = subs.length := by omega
      rw [List.take_length] at hbr
      have g0 := (blk_cell hgr 0).trans (show _ = some (Value.string name) from rfl)
      have g1 := (blk_cell hgr 1).trans (show _ = some (Value.slice A' subs.length cp) from rfl)
      have r0 := (blk_cell hor 0).trans (show _ = some (Value.string ⟨#[]⟩) from rfl)
      have r1 := (blk_cell hor 1).trans (show _ = some (Value.slice none 0 0) from rfl)
      have f0 := blk_frozen hor 0
      have f1 := blk_frozen hor 1
      replace hor := Aside0.mk hor
      replace hgr := Aside0.mk hgr
      replace hbr := Aside0.mk hbr
      replace hBw := Aside0.mk hBw
      go_wp2
      have hlt9 : w.heap.size + 1 < g + 1 := by have := hgo.out; omega
      have hr9 := (blk_put (blk_put hor.out 0 (.string name) rfl) 1 (.slice A' subs.length cp) rfl)
      have hR9 := ((hbr.out.set (p := ⟨w.heap.size + 1, 0, none⟩) hlt9 (.string name)).set (p := ⟨w.heap.size + 1, 1, none⟩) hlt9 (.slice A' subs.length cp))
      have hB9 := ((hBw.out.setCell (p := ⟨w.heap.size + 1, 0, none⟩) (Nat.le_succ _) (.string name)).setCell (p := ⟨w.heap.size + 1, 1, none⟩) (Nat.le_succ _) (.slice A' subs.length cp))
      replace hr9 := (show _ = some (o38 name (.slice A' subs.length cp)) from hr9)
      have z0 := (blk_cell hr9 0).trans (show _ = some (Value.string name) from rfl)
      have z1 := (blk_cell hr9 1).trans (show _ = some (Value.slice A' subs.length cp) from rfl)
      refine bodyPost_ret (v := .agg #[.string name, .slice A' subs.length cp]) (by simp [results, Tryz.results13, go_sem, z0, z1]) rfl ⟨_, rfl, hB9, hR9.base (by have := hgw.out; omega)⟩
end Go.Proofs.YtkbkkceeolclmaaGreatDoor.X
