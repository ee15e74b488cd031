/- The walk of the law KeyParses. -/
import Derived.Test.YtfgnpplnjgjjkaaDoorKYr
namespace Go.Proofs.YtfgnpplnjgjjkaaDoor.T
open Go.RowKit Go.Lib Go.Proofs.YtfgnpplnjgjjkaaDoorW.PrintWords Go.Proofs.YtfgnpplnjgjjkaaDoor.K

attribute [local go_sem high] eqB_run build23 build23z

theorem eqB_own (a b c : Int) : eqB a b c a b c = true := by simp [eqB]
abbrev B23 (a b c : Int) : Obj := .cells #[.int .i64 a, .int .i64 b, .int .i64 c] 23
abbrev B22 (a b c : Int) : Obj := .cells #[.int .i64 a, .int .i64 b, .int .i64 c] 22

set_option maxHeartbeats 1000000 in
set_option maxRecDepth 100000 in
theorem kparses_long (s : ByteArray) (h : 60 < s.size) (h2 : s.size ≤ maxLen) (w : World) (hE : Env w) :
    Calls Tryd.prog 9 #[.string s] w fun e w' => e = .returned (.bool true) ∧ Below w.heap.size w w' := by
  unfold maxLen at h2
  replace hE := Aside0.mk hE
  go_enter Tryd.func9, Tryd.ntmps9
  go_wp2_with (go_at_call 15; refine (awake_walk _).mono ?_; rintro e w9 ⟨rfl, hb9⟩; replace hb9 := Aside0.mk hb9)
  go_ret
  exact ⟨rfl, hb9.out⟩

set_option maxHeartbeats 2000000 in
set_option maxRecDepth 100000 in
theorem kparses_no (s : ByteArray) (h : ¬ 60 < s.size) (hn : ∀ a b c : Int, rightR 0 a b c = true → str (ktext3 a.toNat b.toNat c.toNat) ≠ s) (w : World) (hE : Env w) :
    Calls Tryd.prog 9 #[.string s] w fun e w' => e = .returned (.bool true) ∧ Below w.heap.size w w' := by
  have HP := Aside0.mk (fun w h' => kparse_nay s (by omega) hn w h')
  have HR := Aside0.mk (fun w => krefParse_nay s (by omega) hn w)
  have hee := eqB_own 0 0 0
  replace hE := Aside0.mk hE
  have hs : s.size ≤ 60 := by omega
  clear hn
  go_enter Tryd.func9, Tryd.ntmps9
  go_wp2_with (first | (go_at_call 31; refine (HP.out _ hE.out).mono ?_; rintro e w1 ⟨rfl, hb⟩; have hB1 := Aside0.mk (hb.alloc hb.size (B23 0 0 0)); have hq1 := Aside0.mk (blk_new w1 (B23 0 0 0)); clear hb) | (go_at_call 33; refine (HR.out _).mono ?_; rintro e w2 ⟨rfl, hb⟩; have hB2 := Aside0.mk ((hB1.out.trans (hb.mono hB1.out.size)).alloc (Nat.le_trans hB1.out.size hb.size) (B22 0 0 0)); have hq2 := blk_alloc (blk_below hq1.out hb) (B22 0 0 0); have x0 := (blk_cell hq2 0).trans (show _ = some (Value.int .i64 0) from rfl); have x1 := (blk_cell hq2 1).trans (show _ = some (Value.int .i64 0) from rfl); have x2 := (blk_cell hq2 2).trans (show _ = some (Value.int .i64 0) from rfl); clear hb hq2) | (go_at_call 15; refine (awake_walk _).mono ?_; rintro e w9 ⟨rfl, hb9⟩; replace hb9 := Aside0.mk hb9))
  go_ret
  exact ⟨rfl, hB2.out.trans (hb9.out.mono hB2.out.size)⟩

set_option maxHeartbeats 2000000 in
set_option maxRecDepth 100000 in
theorem kparses_yes (a b c : Int) (hR : rightR 0 a b c = true) (w : World) (hE : Env w) :
    Calls Tryd.prog 9 #[.string (str (ktext3 a.toNat b.toNat c.toNat))] w fun e w' => e = .returned (.bool true) ∧ Below w.heap.size w w' := by
  obtain ⟨⟨a0, a1⟩, ⟨b0, b1⟩, ⟨c0, c1⟩⟩ := kright_parts hR
  have hs : (str (ktext3 a.toNat b.toNat c.toNat)).size ≤ 60 := by
    have la := kword_len (n := a.toNat) (by omega)
    have lb := kword_len (n := b.toNat) (by omega)
    have lc := kword_len (n := c.toNat) (by omega)
    rw [str_size]; unfold ktext3; simp; omega
  have HP := Aside0.mk (fun w h' => kparse_yes a b c hR w h')
  have HR := Aside0.mk (fun w => krefParse_yes a b c hR w)
  have HT := Aside0.mk (fun w h' => ktext_ok a b c hR w h')
  generalize str (ktext3 a.toNat b.toNat c.toNat) = s at hs HP HR HT ⊢
  have hee := eqB_own a b c
  replace hE := Aside0.mk hE
  clear hR a0 a1 b0 b1 c0 c1
  go_enter Tryd.func9, Tryd.ntmps9
  go_wp2_with (first | (go_at_call 31; refine (HP.out _ hE.out).mono ?_; rintro e w1 ⟨rfl, hb⟩; have hB1 := Aside0.mk (hb.alloc hb.size (B23 a b c)); have hq1 := Aside0.mk (blk_new w1 (B23 a b c)); clear hb) | (go_at_call 33; refine (HR.out _).mono ?_; rintro e w2 ⟨rfl, hb⟩; have hB2 := Aside0.mk ((hB1.out.trans (hb.mono hB1.out.size)).alloc (Nat.le_trans hB1.out.size hb.size) (B22 a b c)); have hq2 := Aside0.mk (blk_alloc (blk_below hq1.out hb) (B22 a b c)); have hr2 := Aside0.mk (blk_new w2 (B22 a b c)); have x0 := (blk_cell hq2.out 0).trans (show _ = some (Value.int .i64 a) from rfl); have x1 := (blk_cell hq2.out 1).trans (show _ = some (Value.int .i64 b) from rfl); have x2 := (blk_cell hq2.out 2).trans (show _ = some (Value.int .i64 c) from rfl); clear hb) | (go_at_call 29; refine (HT.out _ (hE.out.below hB2.out)).mono ?_; rintro e w3 ⟨rfl, hb⟩; have hB3 := Aside0.mk (hB2.out.trans (hb.mono hB2.out.size)); have hq3 := blk_below hq2.out hb; have hr3 := blk_below hr2.out hb; clear x0 x1 x2; have x0 := (blk_cell hq3 0).trans (show _ = some (Value.int .i64 a) from rfl); have x1 := (blk_cell hq3 1).trans (show _ = some (Value.int .i64 b) from rfl); have x2 := (blk_cell hq3 2).trans (show _ = some (Value.int .i64 c) from rfl); have y0 := (blk_cell hr3 0).trans (show _ = some (Value.int .i64 a) from rfl); have y1 := (blk_cell hr3 1).trans (show _ = some (Value.int .i64 b) from rfl); have y2 := (blk_cell hr3 2).trans (show _ = some (Value.int .i64 c) from rfl); clear hb hq3 hr3) | (go_at_call 15; refine (awake_walk _).mono ?_; rintro e w9 ⟨rfl, hb9⟩; replace hb9 := Aside0.mk hb9))
  go_ret
  exact ⟨rfl, hB3.out.trans (hb9.out.mono hB3.out.size)⟩

theorem kparses_walk (s : ByteArray) (hs : s.size ≤ maxLen) (w : World) (hE : Env w) :
    Calls Tryd.prog 9 #[.string s] w fun e w' => e = .returned (.bool true) ∧ Below w.heap.size w w' := by
  by_cases h : 60 < s.size
  · exact kparses_long s h hs w hE
  · by_cases hx : ∃ a b c : Int, rightR 0 a b c = true ∧ str (ktext3 a.toNat b.toNat c.toNat) = s
    · obtain ⟨a, b, c, hR, rfl⟩ := hx
      exact kparses_yes a b c hR w hE
    · exact kparses_no s h (fun a b c hR he => hx ⟨a, b, c, hR, he⟩) w hE
end Go.Proofs.YtfgnpplnjgjjkaaDoor.T
