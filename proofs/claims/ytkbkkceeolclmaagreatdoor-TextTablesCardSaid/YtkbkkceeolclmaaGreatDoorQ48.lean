/- The law TextTables. -/
import Derived.Test.YtkbkkceeolclmaaGreatDoorQ45
import Derived.Test.YtkbkkceeolclmaaGreatDoorQ47
set_option linter.unusedVariables false
set_option linter.unusedSimpArgs false
namespace Go.Proofs.YtkbkkceeolclmaaGreatDoor.X
open Go.RowKit Go.TX Go.Proofs.YtkbkkceeolclmaaGreatDoorW.PrintWords Go.Proofs.YtkbkkceeolclmaaGreatDoorL
attribute [local go_sem] YReg.envOf
theorem Tb.cut {w : World} {F : Nat → Prop} {t : Nat} {ns : List (List UInt8)} (h : Tb w F t ns) : Tb w (fun b => F b ∧ b < w.heap.size) t ns := by
  obtain ⟨N, m, h1, h2, h3, h4, h5, h6⟩ := h
  exact ⟨N, m, h1, h2, h3, ⟨h4, blk_lt h1⟩, ⟨h5, h3.lt⟩, fun b hb => ⟨h6 b hb, (owner_lt h2 hb).2⟩⟩
/-- Is a rule right? -/
def FPost (nm : List UInt8) (l : List Cd) (w : World) (e : Ending) (W : World) : Prop :=
  ∃ b : Bool, e = .returned (.bool b) ∧ Below w.heap.size w W ∧ (b = true → csizeL l ≤ 20 ∧ nm.length ≤ 200 ∧ rchk nm l = 0)
set_option maxRecDepth 100000 in
set_option maxHeartbeats 4000000 in
theorem fine18 (nm : List UInt8) (l : List Cd) (A : Option Addr) (cap : Nat) (w : World) (hlen : l.length ≤ 9223372036854775807) (hR : RepL evA w (fun b => b < w.heap.size) l A 0) :
    Calls Tryz.prog 18 #[.agg #[.string (str nm), .slice A l.length cap]] w (FPost nm l w) := by
  have hB0 := Aside0.mk ((Below.refl w.heap.size w).alloc (Nat.le_refl _) (.cells #[.string (str nm), .slice A l.length cap] 25))
  have hx0 := Aside0.mk (blk_new w (.cells #[.string (str nm), .slice A l.length cap] 25))
  have hR0 := Aside0.mk (hR.below hB0.out)
  have hsm := Aside0.mk (small9 (str nm) l A cap (w.alloc (.cells #[.string (str nm), .slice A l.length cap] 25)) 20 hlen (RepL.mono (fun b hb => Nat.lt_of_lt_of_le hb hB0.out.size) l A 0 hR0.out) (by decide) (by decide))
  have x0 := (blk_cell hx0.out 0).trans (show _ = some (Value.string (str nm)) from rfl)
  have x1 := (blk_cell hx0.out 1).trans (show _ = some (Value.slice A l.length cap) from rfl)
  clear hR
  go_enter Tryz.func18, Tryz.ntmps18
  go_upto_region 1 with fail
  generalize w.alloc (.cells #[.string (str nm), .slice A l.length cap] 25) = W0 at hB0 hx0 hR0 hsm x0 x1 ⊢
  generalize hg : w.heap.size = g at hx0 hR0 x0 x1 ⊢
  replace hg := Aside0.mk hg
  go_wp2_with (first
    | (go_at_call 9; refine hsm.out.mono ?_; rintro e W2 ⟨rb, rfl, hb2, hsz⟩; have hx2 := Aside0.mk ((hb2.block g (blk_lt hx0.out)).trans hx0.out); have y0 := (blk_cell hx2.out 0).trans (show _ = some (Value.string (str nm)) from rfl); have y1 := (blk_cell hx2.out 1).trans (show _ = some (Value.slice A l.length cap) from rfl); replace hsz := Aside0.mk hsz; replace hb2 := Aside0.mk hb2; clear x0 x1; rcases rb with _ | _)
    | (go_at_call 13; have hcl := hsz.out trivial; rw [str_size] at hcl; refine (ref13 (csizeL l + 1) (str nm) l A cap W2 _ (Nat.lt_succ_self _) (by omega) (hR0.out.below hb2.out)).mono ?_; rintro e W3 ⟨S3, rfl, hb3, hbr3⟩; obtain ⟨A3, c3, rfl, hrr3⟩ := hbr3.reads; replace hb3 := Aside0.mk (show Below W2.heap.size W2 W3 from hb3); replace hcl := Aside0.mk hcl; replace hrr3 := Aside0.mk hrr3; clear hbr3)
    | (go_at_call 30; refine (rrule_walk nm (by have := hcl.out; omega) l A3 c3 W3 _ (by have := hcl.out; omega) hrr3.out).mono ?_; rintro e W4 ⟨rfl, hb4⟩; replace hb4 := Aside0.mk hb4))
  · go_ret
    exact ⟨false, rfl, hB0.out.trans (hb2.out.mono hB0.out.size), fun h => by cases h⟩
  · go_ret
    refine ⟨_, rfl, hB0.out.trans ((hb2.out.trans ((hb3.out.trans (hb4.out.mono hb3.out.size)).mono hb2.out.size)).mono hB0.out.size), fun h => ?_⟩
    have := hcl.out
    refine ⟨by omega, by omega, ?_⟩
    simpa using h
theorem table_weak (inp : List (List UInt8)) (A : Option Addr) (cap : Nat) (w : World) (hC : Kd.C Kd.string w A inp.length (inp.map str)) (hcap : inp.length ≤ cap) :
    Calls Tryz.prog 8 #[.slice A inp.length cap] w fun e W => ∃ a b c, e = .returned (.tuple #[a, b, c]) ∧ Below w.heap.size w W :=
  (table_walk inp A cap w hC hcap).mono fun e W h => by
    rcases h with ⟨_, t, v, rfl, T, P, _, _, _, _, _, hb⟩ | ⟨_, rfl, hb⟩
    · exact ⟨_, _, _, rfl, hb⟩
    · exact ⟨_, _, _, rfl, hb⟩
theorem rtext_bad {ns : List (List UInt8)} {nm : List UInt8} {l : List Cd} {S : List UInt8} {cd : Int} (h : rtext ns nm l = (S, cd)) (hc : cd ≠ 0) : S = [] := by
  unfold rtext at h
  split at h
  · simp only [Prod.mk.injEq] at h
    exact h.1.symm
  · split at h
    · simp only [Prod.mk.injEq] at h
      exact absurd h.2.symm hc
    · simp only [Prod.mk.injEq] at h
      exact h.1.symm
set_option maxRecDepth 100000 in
set_option maxHeartbeats 8000000 in
theorem law_tables (inp : List (List UInt8)) (A0 : Option Addr) (cap0 : Nat) (inq : List (List UInt8)) (Aq : Option Addr) (capq : Nat) (nm : List UInt8) (l : List Cd) (A1 : Option Addr) (cap1 : Nat) (w : World) (hC : Kd.C Kd.string w A0 inp.length (inp.map str)) (hcap : inp.length ≤ cap0)
    (hCq : Kd.C Kd.string w Aq inq.length (inq.map str)) (hcapq : inq.length ≤ capq) (hll : l.length ≤ 9223372036854775807) (hR : RepL evA w (fun b => b < w.heap.size) l A1 0) (hE : Env w) :
    Calls Tryz.prog 5 #[.slice A0 inp.length cap0, .slice Aq inq.length capq, .agg #[.string (str nm), .slice A1 l.length cap1]] w fun e W => e = .returned (.bool true) ∧ Below w.heap.size w W := by
  have hB0 := Aside0.mk ((Below.refl w.heap.size w).alloc (Nat.le_refl _) (.cells #[.string (str nm), .slice A1 l.length cap1] 25))
  have hx0 := Aside0.mk (blk_new w (.cells #[.string (str nm), .slice A1 l.length cap1] 25))
  have htab := Aside0.mk (table_walk inp A0 cap0 (w.alloc (.cells #[.string (str nm), .slice A1 l.length cap1] 25)) (Kd.C_below hC hB0.out) hcap)
  have hz0 := Aside0.mk (show (w.alloc (.cells #[.string (str nm), .slice A1 l.length cap1] 25)).heap.size = w.heap.size + 1 by simp)
  have hnsl := Aside0.mk (tabN_len inp)
  have hnsn := Aside0.mk (tabN_names inp)
  generalize tabN inp = ns at htab hnsl hnsn
  have hmsl := Aside0.mk (tabN_len inq)
  have hmsn := Aside0.mk (tabN_names inq)
  replace hCq := Aside0.mk hCq
  replace hR := Aside0.mk hR
  replace hE := Aside0.mk hE
  clear hC
  go_enter Tryz.func5, Tryz.ntmps5
  go_upto_region 1 with fail
  generalize w.alloc (.cells #[.string (str nm), .slice A1 l.length cap1] 25) = W0 at hB0 hx0 htab hz0 ⊢
  generalize hg : w.heap.size = g at hx0 hz0 ⊢
  replace hg := Aside0.mk hg
  go_upto_region 2 with (go_at_call 8; refine htab.out.mono ?_; rintro e W1 (⟨hok, t, v, rfl, hts⟩ | ⟨hno, rfl, hb1⟩))
  rotate_left
  · have hB1 := Aside0.mk (hB0.out.trans (hb1.mono hB0.out.size))
    have hwk := Aside0.mk (table_weak inq Aq capq W1 (Kd.C_below hCq.out hB1.out) hcapq)
    replace hb1 := Aside0.mk hb1
    clear hno
    go_wp2_with (first
      | (go_at_call 8; refine hwk.out.mono ?_; rintro e w2 ⟨v1, v2, v3, rfl, hb2⟩; have hB2 := Aside0.mk (hB1.out.trans (hb2.mono hB1.out.size)); have haw := Aside0.mk (awake_walk w2 (hE.out.of hB2.out (Nat.le_refl _))); clear hb2)
      | (go_at_call 10; refine haw.out.mono ?_; rintro e w3 ⟨rfl, hb3⟩; replace hb3 := Aside0.mk hb3))
    go_ret
    exact ⟨rfl, hB2.out.trans (hb3.out.mono hB2.out.size)⟩
  obtain ⟨T, P, hT, hP, hTb, hPb, hTP, hb1⟩ := hts
  have hB1 := Aside0.mk (hB0.out.trans (hb1.mono hB0.out.size))
  have hx1 := Aside0.mk ((hb1.block g (blk_lt hx0.out)).trans hx0.out)
  have hnl : ns.length ≤ 40 := by have := hnsl.out; have := hok.1; omega
  replace hT := Aside0.mk hT
  have htab2 := Aside0.mk (table_walk inq Aq capq W1 (Kd.C_below hCq.out hB1.out) hcapq)
  generalize tabN inq = ms at htab2 hmsl hmsn
  have hz1 := Aside0.mk (show g + 1 ≤ W1.heap.size by have := hb1.size; have := hz0.out; omega)
  replace hb1 := Aside0.mk hb1
  clear hTb hB0 hx0 htab hz0 hP hPb hTP
  clear hok hb1
  clear W0
  go_upto_region 3 with (go_at_call 8; refine htab2.out.mono ?_; rintro e W2 (⟨hok, t2, v2, rfl, hts⟩ | ⟨hno, rfl, hb2⟩))
  rotate_left
  · have hB2 := Aside0.mk (hB1.out.trans (hb2.mono hB1.out.size))
    have haw := Aside0.mk (awake_walk W2 (hE.out.of hB2.out (Nat.le_refl _)))
    replace hb2 := Aside0.mk hb2
    clear hno
    go_wp2_with (go_at_call 10; refine haw.out.mono ?_; rintro e w3 ⟨rfl, hb3⟩; replace hb3 := Aside0.mk hb3)
    go_ret
    exact ⟨rfl, hB2.out.trans (hb3.out.mono hB2.out.size)⟩
  obtain ⟨T2, P2, hT2, hP2, hTb2, hPb2, hTP2, hb2⟩ := hts
  have hB2 := Aside0.mk (hB1.out.trans (hb2.mono hB1.out.size))
  have hx2 := Aside0.mk ((hb2.block g (blk_lt hx1.out)).trans hx1.out)
  have hml : ms.length ≤ 40 := by have := hmsl.out; have := hok.1; omega
  have hTa := Aside0.mk (hT.out.below hb2)
  have hTg := Aside0.mk (fun b (q : T2 b) => show g + 1 ≤ b by have := (hTb2 b q).1; have := hz1.out; omega)
  have hTl := Aside0.mk (fun b (q : T2 b) => show b < W2.heap.size from (hTb2 b q).2)
  replace hT2 := Aside0.mk hT2
  replace hb2 := Aside0.mk hb2
  clear hTb2 hx1 htab2 hP2 hPb2 hTP2 hT
  clear hok hb2
  clear hz1 hB1
  clear W1
  have hfn := Aside0.mk (fine18 nm l A1 cap1 W2 hll (RepL.mono (fun b hb => Nat.lt_of_lt_of_le hb hB2.out.size) l A1 0 (hR.out.below hB2.out)))
  have x0 := (blk_cell hx2.out 0).trans (show _ = some (Value.string (str nm)) from rfl)
  have x1 := (blk_cell hx2.out 1).trans (show _ = some (Value.slice A1 l.length cap1) from rfl)
  go_upto_region 4 with (go_at_call 18; refine hfn.out.mono ?_; rintro e W3 ⟨rb, rfl, hb3, hsz⟩; have hB3 := Aside0.mk (hB2.out.trans (hb3.mono hB2.out.size)); have hx3 := Aside0.mk ((hb3.block g (blk_lt hx2.out)).trans hx2.out); have y0 := (blk_cell hx3.out 0).trans (show _ = some (Value.string (str nm)) from rfl); have y1 := (blk_cell hx3.out 1).trans (show _ = some (Value.slice A1 l.length cap1) from rfl); replace hsz := Aside0.mk hsz; replace hb3 := Aside0.mk hb3; rcases rb with _ | _)
  · have haw := Aside0.mk (awake_walk W3 (hE.out.of hB3.out (Nat.le_refl _)))
    go_wp2_with (go_at_call 10; refine haw.out.mono ?_; rintro e w3 ⟨rfl, hb4⟩; replace hb4 := Aside0.mk hb4)
    go_ret
    exact ⟨rfl, hB3.out.trans (hb4.out.mono hB3.out.size)⟩
  obtain ⟨hcs, hns, hz⟩ := hsz.out trivial
  have hshort := Aside0.mk (names_short hnsn.out)
  have hrt := rtext_walk hshort.out (by omega) nm (by omega) l A1 cap1 W3 _ (by omega) (hR.out.below hB3.out) (hTa.out.below hb3.out) (hE.out.of hB3.out (Nat.le_refl _))
  obtain ⟨⟨S, cd⟩, hq⟩ : ∃ q, rtext ns nm l = q := ⟨_, rfl⟩
  rw [hq] at hrt
  simp only at hrt
  replace hrt := Aside0.mk hrt
  replace hq := Aside0.mk hq
  replace hz := Aside0.mk hz
  go_upto_region 6 with (go_at_call 11; refine hrt.out.mono ?_; rintro e W4 ⟨rfl, hb4⟩; replace hb4 := Aside0.mk hb4)
  have hB4 := Aside0.mk (hB3.out.trans (hb4.out.mono hB3.out.size))
  have hx4 := Aside0.mk ((hb4.out.block g (blk_lt hx3.out)).trans hx3.out)
  have hT4 := Aside0.mk ((hT2.out.below hb3.out).below hb4.out)
  have hT4l := Aside0.mk (fun b (q : T2 b) => show b < W4.heap.size from Nat.lt_of_lt_of_le (hTl.out b q) (Nat.le_trans hb3.out.size hb4.out.size))
  clear y0 y1 hrt hTa hT2 hTl hfn hsz hx2 hx3 x0 x1
  by_cases hcd : cd = 0
  · subst hcd
    obtain ⟨_, hgl, _, _⟩ := rchk_ok hz.out
    obtain ⟨l', m1, p1, p2, p3, p4, p5⟩ := tables_plain hnsn.out (nm := nm) (l := l) (by rw [hq.out]) (goodL_held l hgl) (ms := ms) (by omega) hmsn.out
    have hSl : S.length ≤ 5000 := by
      have := rtext_len hshort.out (nm := nm) (l := l) (by rw [hq.out])
      rw [hq.out] at this
      simp only at this
      omega
    rw [hq.out] at p1 p4 p5
    simp only at p1 p4 p5
    have hpw := parse_walk hT4.out hT4l.out hmsn.out (by omega) (hE.out.of hB4.out (Nat.le_refl _)) S hSl
    rw [p1] at hpw
    replace hpw := Aside0.mk hpw
    have hm1 : m1.length ≤ 100 := by omega
    have hsh1 := Aside0.mk (names_short p3)
    replace p3 := Aside0.mk p3
    replace p4 := Aside0.mk p4
    replace p5 := Aside0.mk p5
    have hl' := Aside0.mk (rtext_zero (nm := nm) (l := l') (by rw [p4.out]))
    have hc' : csizeL l' ≤ 16 := (rchk_ok hl'.out).2.2.2
    clear hgl p1 p2
    go_upto_region 9 with (go_at_call 14; refine hpw.out.mono ?_; rintro e W5 ⟨V5, rfl, hfr5, ⟨T5, hT5, htb5⟩, hbx5⟩; obtain ⟨A5, c5, rfl⟩ := hbx5.form; replace hfr5 := Aside0.mk hfr5; replace hT5 := Aside0.mk hT5; replace htb5 := Aside0.mk htb5; replace hbx5 := Aside0.mk hbx5)
    have hFw := hfr5.out.below (B := g) (by have := hB4.out.size; have := hg.out; omega) (fun b q => by have := hTg.out b q; omega)
    have hB5 : Below w.heap.size w W5 := hB4.out.trans (hg.out.symm ▸ hFw)
    have hA6 := (Below.refl W5.heap.size W5).alloc (Nat.le_refl _) (.cells #[.string (str nm), .slice A5 l'.length c5] 25)
    have hn6 := Aside0.mk (blk_new W5 (.cells #[.string (str nm), .slice A5 l'.length c5] 25))
    have hB6 := Aside0.mk (hB5.trans (hA6.mono hB5.size))
    have hT6 := Aside0.mk (htb5.out.cut.below hA6)
    have hbx6 := Aside0.mk (hbx5.out.below hA6)
    have hg4 := hx4.out
    have hT6g := Aside0.mk (fun b (q : T5 b ∧ b < W5.heap.size) => show g + 1 ≤ b from (hT5.out b q.1).elim (hTg.out b) (fun h => by have := blk_lt hg4; omega))
    have hT6l := Aside0.mk (fun b (q : T5 b ∧ b < W5.heap.size) => q.2)
    have hz6 := Aside0.mk (show (W5.alloc (.cells #[.string (str nm), .slice A5 l'.length c5] 25)).heap.size = W5.heap.size + 1 by simp)
    clear hFw hB5 hA6 hfr5 htb5 hT5 hbx5 hpw hx4 hT4 hT4l hB4 hg4
    generalize W5.alloc (.cells #[.string (str nm), .slice A5 l'.length c5] 25) = W6 at hn6 hB6 hT6 hbx6 hz6 ⊢
    generalize W5.heap.size = g6 at hn6 hT6 hT6g hT6l hz6 ⊢
    have hln := Aside0.mk (len_walk hT6.out)
    go_upto_region 10 with (go_at_call 19; refine hln.out.mono ?_; rintro e W7 ⟨rfl, rfl⟩)
    have x0 := (blk_cell hn6.out 0).trans (show _ = some (Value.string (str nm)) from rfl)
    have x1 := (blk_cell hn6.out 1).trans (show _ = some (Value.slice A5 l'.length c5) from rfl)
    obtain ⟨A5', c5', ev5, hr6⟩ := hbx6.out.reads
    obtain ⟨rfl, rfl⟩ : A5 = A5' ∧ c5 = c5' := by
      simp only [Value.slice.injEq] at ev5
      exact ⟨ev5.1, by omega⟩
    clear ev5
    have hrt := rtext_walk hsh1.out (by omega) nm (by omega) l' A5 c5 W6 _ (by omega) hr6 hT6.out (hE.out.of hB6.out (Nat.le_refl _))
    rw [p4.out] at hrt
    simp only at hrt
    replace hrt := Aside0.mk hrt
    clear hr6
    go_upto_region 11 with (go_at_call 11; refine hrt.out.mono ?_; rintro e W8 ⟨rfl, hb8⟩; replace hb8 := Aside0.mk hb8)
    have hB8 := Aside0.mk (hB6.out.trans (hb8.out.mono hB6.out.size))
    have hn8 := Aside0.mk ((hb8.out.block g6 (blk_lt hn6.out)).trans hn6.out)
    have hT8 := Aside0.mk (hT6.out.below hb8.out)
    have hbx8 := Aside0.mk (hbx6.out.below hb8.out)
    have hT8l := Aside0.mk (fun b (q : T5 b ∧ b < g6) => show b < W8.heap.size from by have := hT6l.out b q; have := hb8.out.size; have := hz6.out; omega)
    clear x0 x1 hrt hn6 hT6 hbx6 hln hz6 hB6 hb8
    have hpw := parse_walk hT8.out hT8l.out p3.out (by omega) (hE.out.of hB8.out (Nat.le_refl _)) S hSl
    rw [p5.out] at hpw
    replace hpw := Aside0.mk hpw
    go_upto_region 12 with (go_at_call 14; refine hpw.out.mono ?_; rintro e W9 ⟨V9, rfl, hfr9, ⟨T9, hT9, htb9⟩, hbx9⟩; obtain ⟨A9, c9, rfl⟩ := hbx9.form; replace hfr9 := Aside0.mk hfr9; replace htb9 := Aside0.mk htb9; replace hbx9 := Aside0.mk hbx9)
    have hFw := hfr9.out.below (B := g) (by have := hB8.out.size; have := hg.out; omega) (fun b q => by have := hT6g.out b q; omega)
    have hB9 : Below w.heap.size w W9 := hB8.out.trans (hg.out.symm ▸ hFw)
    have hn9 := (hfr9.out.ch.block g6 (blk_lt hn8.out) (fun q => by have := hT6l.out g6 q; omega)).trans hn8.out
    have hA10 := (Below.refl W9.heap.size W9).alloc (Nat.le_refl _) (.cells #[.string (str nm), .slice A9 l'.length c9] 25)
    have hn10 := Aside0.mk (blk_new W9 (.cells #[.string (str nm), .slice A9 l'.length c9] 25))
    have hm10 := Aside0.mk (blk_alloc hn9 (.cells #[.string (str nm), .slice A9 l'.length c9] 25))
    have hB10 := Aside0.mk (hB9.trans (hA10.mono hB9.size))
    have hT10 := Aside0.mk (htb9.out.below hA10)
    have hbx10 := Aside0.mk ((hbx8.out.fr hfr9.out).below hA10)
    have hby10 := Aside0.mk (hbx9.out.below hA10)
    clear hFw hB9 hA10 hfr9 htb9 hT9 hbx9 hpw hn8 hn9 hT8 hT8l hB8 hbx8
    generalize W9.alloc (.cells #[.string (str nm), .slice A9 l'.length c9] 25) = W10 at hn10 hm10 hB10 hT10 hbx10 hby10 ⊢
    generalize W9.heap.size = g9 at hn10 hby10 ⊢
    generalize W8.heap.size = n9 at hby10
    generalize W4.heap.size = n5 at hbx10
    have k13a : Aside0 (∀ W', YReg.Ext W10.drew W' → Calls Tryz.prog 13 #[.agg #[.string (str nm), .slice A5 l'.length c5]] W' fun e W2 => ∃ u, e = .returned u ∧ YReg.Ext W' W2 ∧ IsRl nm l' u W2) := ⟨fun W' h => by
      obtain ⟨A, c, e, hr⟩ := (hbx10.out.below h.of_drew).reads
      cases e
      exact (ref13 (csizeL l' + 1) (str nm) l' A5 c5 W' _ (Nat.lt_succ_self _) (by omega) hr).mono fun e W2 ⟨S, h1, h2, h3⟩ => ⟨_, h1, h2, S, _, rfl, h3⟩⟩
    have k13b : Aside0 (∀ W', YReg.Ext W10.drew W' → Calls Tryz.prog 13 #[.agg #[.string (str nm), .slice A9 l'.length c9]] W' fun e W2 => ∃ u, e = .returned u ∧ YReg.Ext W' W2 ∧ IsRl nm l' u W2) := ⟨fun W' h => by
      obtain ⟨A, c, e, hr⟩ := (hby10.out.below h.of_drew).reads
      cases e
      exact (ref13 (csizeL l' + 1) (str nm) l' A9 c9 W' _ (Nat.lt_succ_self _) (by omega) hr).mono fun e W2 ⟨S, h1, h2, h3⟩ => ⟨_, h1, h2, S, _, rfl, h3⟩⟩
    have k15 : Aside0 (∀ u1 u2 W', YReg.Ext W10.drew W' → IsRl nm l' u1 W' → IsRl nm l' u2 W' → Calls Tryz.prog 15 #[u1, u2] W' fun e W2 => ∃ u, e = .returned u ∧ YReg.Ext W' W2 ∧ u = .bool true) := ⟨fun u1 u2 W' h ⟨S1, n1, q1, r1⟩ ⟨S2, n2, q2, r2⟩ => by
      obtain ⟨B1, d1, rfl, t1⟩ := r1.reads
      obtain ⟨B2, d2, rfl, t2⟩ := r2.reads
      subst q1 q2
      exact (same15 nm l' B1 d1 B2 d2 W' _ _ (by omega) t1 t2).mono fun e W2 ⟨h1, h2⟩ => ⟨_, h1, h2, rfl⟩⟩
    have k19 : Aside0 (∀ W', YReg.Ext W10.drew W' → Calls Tryz.prog 19 #[.pointer (some ⟨t2, 0, none⟩)] W' fun e W2 => ∃ u, e = .returned u ∧ YReg.Ext W' W2 ∧ u = .int .i64 (m1.length : Nat)) := ⟨fun W' h => (len_walk (hT10.out.below h.of_drew)).mono fun e W2 ⟨h1, h2⟩ => ⟨_, h1, h2 ▸ YReg.Ext.refl _, rfl⟩⟩
    have k10 : Aside0 (∀ W', YReg.Ext W10.drew W' → Calls Tryz.prog 10 #[] W' fun e W2 => ∃ u, e = .returned u ∧ YReg.Ext W' W2 ∧ u = .bool true) := ⟨fun W' h => (awake_walk W' ((hE.out.of hB10.out (Nat.le_refl _)).below h.of_drew)).mono fun e W2 ⟨h1, h2⟩ => ⟨_, h1, h2, rfl⟩⟩
    have s0 : ∀ W', YReg.Ext W10.drew W' → W'.cell? ⟨g6, 0, none⟩ = some (.string (str nm)) := fun W' h => (blk_cell ((h.of_drew.block _ (blk_lt hm10.out)).trans hm10.out) 0).trans rfl
    have s1 : ∀ W', YReg.Ext W10.drew W' → W'.cell? ⟨g6, 1, none⟩ = some (.slice A5 l'.length c5) := fun W' h => (blk_cell ((h.of_drew.block _ (blk_lt hm10.out)).trans hm10.out) 1).trans rfl
    have s2 : ∀ W', YReg.Ext W10.drew W' → W'.cell? ⟨g9, 0, none⟩ = some (.string (str nm)) := fun W' h => (blk_cell ((h.of_drew.block _ (blk_lt hn10.out)).trans hn10.out) 0).trans rfl
    have s3 : ∀ W', YReg.Ext W10.drew W' → W'.cell? ⟨g9, 1, none⟩ = some (.slice A9 l'.length c9) := fun W' h => (blk_cell ((h.of_drew.block _ (blk_lt hn10.out)).trans hn10.out) 1).trans rfl
    generalize str S = sv
    generalize hml1 : ((m1.length : Nat) : Int) = mv at k19 ⊢
    refine YReg.wp_region_tail 31 none YReg.Ext YReg.Ext YReg.Ext.refl YReg.Ext.trans YReg.Ext.trans (fun _ _ h => h) (by kernel_rfl) (by kernel_rfl) (by kernel_rfl) [(16, .det (.int .i64 0)), (19, .det (.int .i64 0)), (21, .det (.int .i64 0)), (18, .det (.string sv)), (13, .det (.string sv)), (10, .det (.pointer (some ⟨t2, 0, none⟩))), (17, .det (.int .i64 mv)), (15, .det (.pointer (some ⟨g6, 0, none⟩))), (20, .det (.pointer (some ⟨g9, 0, none⟩)))] (YReg.base_cons rfl (YReg.base_cons rfl (YReg.base_cons rfl (YReg.base_cons rfl (YReg.base_cons rfl (YReg.base_cons rfl (YReg.base_cons rfl (YReg.base_cons rfl (YReg.base_cons rfl YReg.base_nil))))))))) ?_
    simp only [List.take_succ_cons, List.take_zero, List.drop_succ_cons, List.drop_zero]
    repeat (first
      | (refine YReg.walk_calln (by decide) IsRl.up k13a.out rfl (by kernel_rfl) rfl _ rfl (by kernel_rfl) (by kernel_rfl) ?_)
      | (refine YReg.walk_calln (by decide) IsRl.up k13b.out rfl (by kernel_rfl) rfl _ rfl (by kernel_rfl) (by kernel_rfl) ?_)
      | (refine YReg.walk_calld2 (by decide) k15.out rfl (by kernel_rfl) rfl rfl _ rfl (by kernel_rfl) (by kernel_rfl) ?_)
      | (refine YReg.walk_calld (by decide) k19.out rfl (by kernel_rfl) rfl _ rfl (by kernel_rfl) (by kernel_rfl) ?_)
      | (refine YReg.walk_calld (by decide) k10.out rfl (by kernel_rfl) rfl _ rfl (by kernel_rfl) (by kernel_rfl) ?_)
      | (refine YReg.run_1 (by decide) YReg.Ext.refl rfl rfl _ rfl (by kernel_rfl) (by kernel_rfl) ?_; apply Exists.intro; refine ⟨fun ρ W hE h1 => ?_, ?_⟩; (go_simp; try rfl))
      | (refine YReg.run_2 (by decide) YReg.Ext.refl rfl rfl rfl _ rfl (by kernel_rfl) (by kernel_rfl) ?_; apply Exists.intro; refine ⟨fun ρ W hE h1 h2 => ?_, ?_⟩; (go_simp; try rfl)))
    intro ρ W11 hE11 hn
    simp only [Act.put, List.setIfInBounds_toArray, List.set_cons_zero, List.set_cons_succ]
    have hB11 := Aside0.mk (hB10.out.trans (hE11.of_drew.mono hB10.out.size))
    clear hn hE11 s0 s1 s2 s3 k10 k13a k13b k15 k19
    generalize ρ 102 = x62
    generalize ρ 104 = x64
    go_wp2
    go_ret
    exact ⟨rfl, hB11.out⟩
  · have hcd' : (cd != 0) = true := bne_iff_ne.2 hcd
    obtain rfl := rtext_bad hq.out hcd
    have haw := Aside0.mk (awake_walk W4 (hE.out.of hB4.out (Nat.le_refl _)))
    replace hcd := Aside0.mk hcd
    go_wp2_with (go_at_call 10; refine haw.out.mono ?_; rintro e w6 ⟨rfl, hb6⟩; replace hb6 := Aside0.mk hb6)
    go_ret
    exact ⟨rfl, hB4.out.trans (hb6.out.mono hB4.out.size)⟩
end Go.Proofs.YtkbkkceeolclmaaGreatDoor.X
