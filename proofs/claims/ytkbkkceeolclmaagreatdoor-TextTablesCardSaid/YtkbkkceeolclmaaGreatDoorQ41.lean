/- A condition's text, as the document writes it. -/
import Derived.Test.YtkbkkceeolclmaaGreatDoorQ40
import Derived.Test.YtkbkkceeolclmaaGreatDoorQ15
set_option linter.unusedVariables false
set_option linter.unusedSimpArgs false
namespace Go.TX
theorem join_snoc (l : List (List UInt8)) (h : l ≠ []) (x : List UInt8) : join (l ++ [x]) = join l ++ 32 :: x := by
  cases l with
  | nil => exact absurd rfl h
  | cons a t => rw [List.cons_append, join_cons, join_cons]; simp
end Go.TX
namespace Go.Proofs.YtkbkkceeolclmaaGreatDoor.X
open Go.RowKit Go.TX Go.Proofs.YtkbkkceeolclmaaGreatDoorW.PrintWords Go.Proofs.YtkbkkceeolclmaaGreatDoorL
set_option maxRecDepth 100000 in
set_option maxHeartbeats 4000000 in
theorem rcond_walk {ns : List (List UInt8)} (hN : ∀ s ∈ ns, s.length ≤ 32) (hlen : ns.length ≤ 1000000) (An : Option Addr) (cn : Nat) (hcn : ns.length ≤ cn) (n : Nat) : ∀ (k : Int) (a b c : Tm) (subs : List Cd) (A : Option Addr) (cap : Nat) (w : World) (G : Nat → Prop), csizeL subs < n → n ≤ 1001 → goodC (.mk k a b c subs) →
    RepL evR w G subs A 0 → Kd.C Kd.string w An ns.length (ns.map str) →
    Calls Tryz.prog 31 #[aC evR k a b c (.slice A subs.length cap), .slice An ns.length cn] w fun e W => e = .returned (.tuple #[.string (str (((cwords ns (.mk k a b c subs)).map join).getD [])), .bool (cwords ns (.mk k a b c subs)).isSome]) ∧ Below w.heap.size w W := by
  induction n with
  | zero => intro k a b c subs A cap w G h; omega
  | succ n ih =>
    intro k a b c subs A cap w G hn hn1 hgood hR hC
    have hsl := csizeL_len subs
    have hB0 := Aside0.mk ((Below.refl w.heap.size w).alloc (Nat.le_refl _) (oC evR 81 k a b c (.slice A subs.length cap)))
    have hx0 := Aside0.mk (blk_new w (oC evR 81 k a b c (.slice A subs.length cap)))
    have htot := Aside0.mk (fun ws (h : cwords ns (.mk k a b c subs) = some ws) => cwords_len hN _ ws hgood h)
    replace hR := Aside0.mk hR
    replace hC := Aside0.mk hC
    obtain ⟨r, hr⟩ : ∃ r, cwords ns (.mk k a b c subs) = r := ⟨_, rfl⟩
    rw [hr]
    replace hr := Aside0.mk hr
    by_cases hk : k = 3
    · subst hk
      have hgl := Aside0.mk (hgood.elim (fun q => absurd q.1 (by decide)) (fun q => q.2.2.2.2) : goodL subs)
      clear hgood
      go_enter Tryz.func31, Tryz.ntmps31
      go_upto_region 1 with fail
      generalize w.alloc (oC evR 81 3 a b c (.slice A subs.length cap)) = W0 at hB0 hx0 ⊢
      have e0 := (blk_cell hx0.out 0).trans (show _ = some (Value.int .i64 3) from rfl)
      have e7 := (blk_cell hx0.out 7).trans (show _ = some (Value.slice A subs.length cap) from rfl)
      go_upto_region 4 with fail
      go_loopw [21, 6] (fun i S wr => ∃ (j : Nat) (ws : List (List UInt8)), i = .int .i64 j ∧ j ≤ subs.length ∧ Below w.heap.size w wr ∧ cwordsL ns (subs.take j) = some ws ∧ S = .string (str ([45, 123] ++ tail ws))) (fun i _ _ => subs.length - (intOf i).toNat)
      case atStart => exact ⟨0, [], rfl, Nat.zero_le _, hB0.out, rfl, rfl⟩
      case round =>
        obtain ⟨j, ws, rfl, hj, hBw, hws, rfl⟩ := hrel
        clear hB0 hx0 e0 e7
        clear W0
        have hls := cwordsL_len hN _ ws (goodL_take j hgl.out) hws
        have hle16 := csizeL_take_le subs j
        have hSz : (str ([45, 123] ++ tail ws)).size ≤ 200000 := by
          rw [str_size, List.length_append, List.length_cons, List.length_cons, List.length_nil]
          omega
        by_cases hlt : j < subs.length
        · obtain ⟨b', o, k', x, y, z, subs', B, cap', rfl, hbl, hx, hlen', hR', htk, hle, c0, c1, c2, c3, c4, c5, c6, c7⟩ := sub_at (hR.out.below hBw) hlt
          have hAB : Below wr.heap.size wr (wr.alloc (oC evR 81 k' x y z (.slice B subs'.length cap'))) := (Below.refl _ _).alloc (Nat.le_refl _) _
          have hBW := Aside0.mk (hBw.trans (hAB.mono hBw.size))
          have hxW := Aside0.mk (blk_new wr (oC evR 81 k' x y z (.slice B subs'.length cap')))
          have hcall := Aside0.mk (ih k' x y z subs' B cap' (wr.alloc (oC evR 81 k' x y z (.slice B subs'.length cap'))) G (by omega) (by omega) (hx ▸ goodL_get j hlt hgl.out) (hR'.below hAB) (Kd.C_below hC.out (hBW.out.mono (Nat.le_refl _))))
          have hgj := goodL_get j hlt hgl.out
          have hcz : csize subs[j] ≤ 1001 := by rw [hx]; simp only [csize]; omega
          clear hBw hAB hR' htk hle hls
          go_upto_region 6 with fail
          generalize wr.alloc (oC evR 81 k' x y z (.slice B subs'.length cap')) = W at hBW hxW hcall ⊢
          generalize wr.heap.size = g at hxW ⊢
          clear c0 c1 c2 c3 c4 c5 c6 c7 hbl
          clear wr
          obtain ⟨d0, d1, d2, d3, d4, d5, d6, d7⟩ := box8 hxW.out
          cases hcw : cwords ns subs[j] with
          | none =>
            have hnone := cwordsL_none hlt hcw
            have he : cwords ns (.mk 3 a b c subs) = none := by simp [cwords, hnone]
            obtain rfl : r = none := hr.out.symm.trans he
            rw [← hx, hcw] at hcall
            clear he hnone hcw hws hgj hcz
            replace hx := Aside0.mk hx
            go_wp2_with (go_at_call 31; refine hcall.out.mono ?_; rintro e w2 ⟨rfl, hb⟩; replace hb := Aside0.mk hb)
            go_ret2
            exact ⟨rfl, hBW.out.trans (hb.out.mono hBW.out.size)⟩
          | some wj =>
            have htk : cwordsL ns (subs.take (j + 1)) = some (ws ++ wj) := by
              rw [List.take_succ_eq_append_getElem hlt]
              exact cwordsL_snoc hcw hws
            have hlj := cwords_len hN _ wj hgj hcw
            have hjj := tail_join (cwords_ne ns _ wj hcw)
            have hSj : (str (join wj)).size ≤ 200000 := by
              rw [hjj, List.length_cons] at hlj
              rw [str_size]
              omega
            have hcat : Aside0 (str ([45, 123] ++ tail ws) ++ (⟨#[32]⟩ ++ str (join wj)) = str ([45, 123] ++ tail (ws ++ wj))) := ⟨by
              show str ([45, 123] ++ tail ws) ++ (str [32] ++ str (join wj)) = _
              rw [str_app, str_app, tail_app, hjj]
              simp⟩
            rw [← hx, hcw] at hcall
            simp only [Option.map_some, Option.getD_some, Option.isSome_some] at hcall
            replace hx := Aside0.mk hx
            replace htk := Aside0.mk htk
            clear hcw hws hgj hcz hlj hjj
            generalize str (join wj) = S2 at hSj hcat hcall
            generalize str ([45, 123] ++ tail ws) = S1 at hSz hcat ⊢
            go_wp2_with (go_at_call 31; refine hcall.out.mono ?_; rintro e w2 ⟨rfl, hb⟩; replace hb := Aside0.mk hb)
            go_roundw
            case rel => exact ⟨j + 1, ws ++ wj, by go_num, by omega, hBW.out.trans (hb.out.mono hBW.out.size), htk.out, by rw [← hcat.out]⟩
            case measure => simp [intOf]; omega
        · obtain rfl : j = subs.length := by omega
          rw [List.take_length] at hws
          have he := cwords_three (a := a) (b := b) (c := c) hws
          obtain rfl : r = some _ := hr.out.symm.trans he
          have hcat : Aside0 (str ([45, 123] ++ tail ws) ++ ⟨#[32, 125]⟩ = str (join ([45, 123] :: (ws ++ [[125]])))) := ⟨by
            show str ([45, 123] ++ tail ws) ++ str [32, 125] = _
            rw [str_app, join_group]⟩
          generalize str ([45, 123] ++ tail ws) = S1 at hSz hcat ⊢
          replace hBw := Aside0.mk hBw
          clear hws hls he
          go_wp2
          go_ret2
          exact ⟨by simp only [Option.map_some, Option.getD_some, Option.isSome_some]; rw [← hcat.out]; rfl, hBw.out⟩
    · obtain ⟨hk12, hta, htb, htc, hsn⟩ := hgood.elim (fun q => q) (fun q => absurd q.1 hk)
      have hta := tm_small hta
      have htb := tm_small htb
      have htc := tm_small htc
      clear hgood hsn ih
      replace hk := Aside0.mk hk
      rcases hk12 with rfl | rfl
      · go_enter Tryz.func31, Tryz.ntmps31
        go_upto_region 1 with fail
        generalize w.alloc (oC evR 81 1 a b c (.slice A subs.length cap)) = W0 at hB0 hx0 ⊢
        obtain ⟨e0, e1, e2, e3, e4, e5, e6, e7⟩ := box8 hx0.out
        go_upto_region 16 with fail
        go_loopw [12, 11] (fun i S wr => ∃ (q : Nat) (l : List (List UInt8)), i = .int .i64 q ∧ q ≤ 3 ∧ Below w.heap.size w wr ∧ wr.heap[w.heap.size]? = some (oC evR 81 1 a b c (.slice A subs.length cap)) ∧ twords ns ([a, b, c].take q) = some l ∧ S = .string (str ([40] ++ join l)) ∧ (join l).length ≤ 40 * q ∧ l.length = q) (fun i _ _ => 3 - (intOf i).toNat)
        case atStart => exact ⟨0, [], rfl, Nat.zero_le _, hB0.out, hx0.out, rfl, rfl, by simp [join], rfl⟩
        case round =>
          obtain ⟨q, l, rfl, hq, hBw, hxw, htw, rfl, hjl, hll⟩ := hrel
          clear hB0 hx0 e0 e1 e2 e3 e4 e5 e6 e7
          clear W0
          obtain ⟨e0, e1, e2, e3, e4, e5, e6, e7⟩ := box8 hxw
          have hSz : (str ([40] ++ join l)).size ≤ 1000 := by
            rw [str_size, List.length_append]
            simp only [List.length_cons, List.length_nil]
            omega
          rcases (show q = 0 ∨ q = 1 ∨ q = 2 ∨ q = 3 by omega) with rfl | rfl | rfl | rfl
          · have hcall := Aside0.mk (rterm_walk a ns hlen (fun _ => by omega) An cn wr (Kd.C_below hC.out (hBw.mono (Nat.le_refl _))) hcn)
            have hqt : [a, b, c][0]? = some a := rfl
            cases hcw : tword ns a with
            | none =>
              obtain rfl : r = none := hr.out.symm.trans (cwords_noterm hk.out hqt hcw)
              rw [hcw] at hcall
              replace hBw := Aside0.mk hBw
              clear hcw htw hjl hll
              go_wp2_with (go_at_call 58; refine hcall.out.mono ?_; rintro e w2 ⟨rfl, hb⟩; replace hb := Aside0.mk hb)
              go_ret2
              exact ⟨rfl, hBw.out.trans (hb.out.mono hBw.out.size)⟩
            | some x =>
              have hxl := tword_len hN (fun _ => by omega) hcw
              have htk : Aside0 (twords ns ([a, b, c].take 1) = some (l ++ [x])) := ⟨twords_snoc (l := [a, b, c].take 0) hcw htw⟩
              rw [hcw] at hcall
              simp only [Option.getD_some, Option.isSome_some] at hcall
              have hxS : (str x).size ≤ 1000 := by rw [str_size]; omega
              obtain rfl : l = [] := List.length_eq_zero_iff.1 hll
              have hcat : Aside0 (str ([40] ++ join []) ++ str x = str ([40] ++ join ([] ++ [x]))) := ⟨by
                rw [str_app]
                simp [join]⟩
              have hjn : Aside0 ((join ([] ++ [x])).length ≤ 40) := ⟨by simp [join]; omega⟩
              have hln : Aside0 (([] ++ [x] : List (List UInt8)).length = 1) := ⟨rfl⟩
              generalize str ([40] ++ join []) = S1 at hSz hcat ⊢
              generalize str x = S2 at hxS hcat hcall
              clear hcw htw hjl hll hxl
              replace hBw := Aside0.mk hBw
              go_wp2_with (go_at_call 58; refine hcall.out.mono ?_; rintro e w2 ⟨rfl, hb⟩; have hx2 := Aside0.mk ((hb.block _ (blk_lt hxw)).trans hxw); replace hb := Aside0.mk hb)
              go_roundw
              case rel => exact ⟨1, [] ++ [x], rfl, by omega, hBw.out.trans (hb.out.mono hBw.out.size), hx2.out, htk.out, by rw [← hcat.out], hjn.out, hln.out⟩
              case measure => simp [intOf]
          · have hcall := Aside0.mk (rterm_walk b ns hlen (fun _ => by omega) An cn wr (Kd.C_below hC.out (hBw.mono (Nat.le_refl _))) hcn)
            have hqt : [a, b, c][1]? = some b := rfl
            cases hcw : tword ns b with
            | none =>
              obtain rfl : r = none := hr.out.symm.trans (cwords_noterm hk.out hqt hcw)
              rw [hcw] at hcall
              replace hBw := Aside0.mk hBw
              clear hcw htw hjl hll
              go_wp2_with (go_at_call 58; refine hcall.out.mono ?_; rintro e w2 ⟨rfl, hb⟩; replace hb := Aside0.mk hb)
              go_ret2
              exact ⟨rfl, hBw.out.trans (hb.out.mono hBw.out.size)⟩
            | some x =>
              have hxl := tword_len hN (fun _ => by omega) hcw
              have htk : Aside0 (twords ns ([a, b, c].take 2) = some (l ++ [x])) := ⟨twords_snoc (l := [a, b, c].take 1) hcw htw⟩
              rw [hcw] at hcall
              simp only [Option.getD_some, Option.isSome_some] at hcall
              have hxS : (str x).size ≤ 1000 := by rw [str_size]; omega
              have hne : l ≠ [] := fun e => by subst e; simp at hll
              have hcat : Aside0 (str ([40] ++ join l) ++ ⟨#[32]⟩ ++ str x = str ([40] ++ join (l ++ [x]))) := ⟨by
                show str ([40] ++ join l) ++ str [32] ++ str x = _
                rw [str_app, str_app, join_snoc l hne]
                simp⟩
              have hjn : Aside0 ((join (l ++ [x])).length ≤ 40 * 2) := ⟨by rw [join_snoc l hne, List.length_append, List.length_cons]; omega⟩
              have hln : Aside0 ((l ++ [x]).length = 2) := ⟨by rw [List.length_append, hll]; rfl⟩
              clear hne
              generalize str ([40] ++ join l) = S1 at hSz hcat ⊢
              generalize str x = S2 at hxS hcat hcall
              clear hcw htw hjl hll hxl
              replace hBw := Aside0.mk hBw
              go_wp2_with (go_at_call 58; refine hcall.out.mono ?_; rintro e w2 ⟨rfl, hb⟩; have hx2 := Aside0.mk ((hb.block _ (blk_lt hxw)).trans hxw); replace hb := Aside0.mk hb)
              go_roundw
              case rel => exact ⟨2, l ++ [x], rfl, by omega, hBw.out.trans (hb.out.mono hBw.out.size), hx2.out, htk.out, by rw [← hcat.out], hjn.out, hln.out⟩
              case measure => simp [intOf]
          · have hcall := Aside0.mk (rterm_walk c ns hlen (fun _ => by omega) An cn wr (Kd.C_below hC.out (hBw.mono (Nat.le_refl _))) hcn)
            have hqt : [a, b, c][2]? = some c := rfl
            cases hcw : tword ns c with
            | none =>
              obtain rfl : r = none := hr.out.symm.trans (cwords_noterm hk.out hqt hcw)
              rw [hcw] at hcall
              replace hBw := Aside0.mk hBw
              clear hcw htw hjl hll
              go_wp2_with (go_at_call 58; refine hcall.out.mono ?_; rintro e w2 ⟨rfl, hb⟩; replace hb := Aside0.mk hb)
              go_ret2
              exact ⟨rfl, hBw.out.trans (hb.out.mono hBw.out.size)⟩
            | some x =>
              have hxl := tword_len hN (fun _ => by omega) hcw
              have htk : Aside0 (twords ns ([a, b, c].take 3) = some (l ++ [x])) := ⟨twords_snoc (l := [a, b, c].take 2) hcw htw⟩
              rw [hcw] at hcall
              simp only [Option.getD_some, Option.isSome_some] at hcall
              have hxS : (str x).size ≤ 1000 := by rw [str_size]; omega
              have hne : l ≠ [] := fun e => by subst e; simp at hll
              have hcat : Aside0 (str ([40] ++ join l) ++ ⟨#[32]⟩ ++ str x = str ([40] ++ join (l ++ [x]))) := ⟨by
                show str ([40] ++ join l) ++ str [32] ++ str x = _
                rw [str_app, str_app, join_snoc l hne]
                simp⟩
              have hjn : Aside0 ((join (l ++ [x])).length ≤ 40 * 3) := ⟨by rw [join_snoc l hne, List.length_append, List.length_cons]; omega⟩
              have hln : Aside0 ((l ++ [x]).length = 3) := ⟨by rw [List.length_append, hll]; rfl⟩
              clear hne
              generalize str ([40] ++ join l) = S1 at hSz hcat ⊢
              generalize str x = S2 at hxS hcat hcall
              clear hcw htw hjl hll hxl
              replace hBw := Aside0.mk hBw
              go_wp2_with (go_at_call 58; refine hcall.out.mono ?_; rintro e w2 ⟨rfl, hb⟩; have hx2 := Aside0.mk ((hb.block _ (blk_lt hxw)).trans hxw); replace hb := Aside0.mk hb)
              go_roundw
              case rel => exact ⟨3, l ++ [x], rfl, by omega, hBw.out.trans (hb.out.mono hBw.out.size), hx2.out, htk.out, by rw [← hcat.out], hjn.out, hln.out⟩
              case measure => simp [intOf]
          · have htw : twords ns [a, b, c] = some l := htw
            obtain ⟨ws, he, hjw⟩ := cwords_term (k := 1) (subs := subs) hk.out htw
            obtain rfl : r = some _ := hr.out.symm.trans he
            have hcat : Aside0 (str ([40] ++ join l) ++ ⟨#[41]⟩ = str (join ws)) := ⟨by
              show str ([40] ++ join l) ++ str [41] = _
              rw [str_app, hjw]
              simp⟩
            generalize str ([40] ++ join l) = S1 at hSz hcat ⊢
            replace hBw := Aside0.mk hBw
            clear htw he hjw hjl hll
            go_wp2
            go_ret2
            exact ⟨by simp only [Option.map_some, Option.getD_some, Option.isSome_some]; rw [← hcat.out]; rfl, hBw.out⟩
      · go_enter Tryz.func31, Tryz.ntmps31
        go_upto_region 1 with fail
        generalize w.alloc (oC evR 81 2 a b c (.slice A subs.length cap)) = W0 at hB0 hx0 ⊢
        obtain ⟨e0, e1, e2, e3, e4, e5, e6, e7⟩ := box8 hx0.out
        go_upto_region 16 with fail
        go_loopw [12, 11] (fun i S wr => ∃ (q : Nat) (l : List (List UInt8)), i = .int .i64 q ∧ q ≤ 3 ∧ Below w.heap.size w wr ∧ wr.heap[w.heap.size]? = some (oC evR 81 2 a b c (.slice A subs.length cap)) ∧ twords ns ([a, b, c].take q) = some l ∧ S = .string (str ([45, 40] ++ join l)) ∧ (join l).length ≤ 40 * q ∧ l.length = q) (fun i _ _ => 3 - (intOf i).toNat)
        case atStart => exact ⟨0, [], rfl, Nat.zero_le _, hB0.out, hx0.out, rfl, rfl, by simp [join], rfl⟩
        case round =>
          obtain ⟨q, l, rfl, hq, hBw, hxw, htw, rfl, hjl, hll⟩ := hrel
          clear hB0 hx0 e0 e1 e2 e3 e4 e5 e6 e7
          clear W0
          obtain ⟨e0, e1, e2, e3, e4, e5, e6, e7⟩ := box8 hxw
          have hSz : (str ([45, 40] ++ join l)).size ≤ 1000 := by
            rw [str_size, List.length_append]
            simp only [List.length_cons, List.length_nil]
            omega
          rcases (show q = 0 ∨ q = 1 ∨ q = 2 ∨ q = 3 by omega) with rfl | rfl | rfl | rfl
          · have hcall := Aside0.mk (rterm_walk a ns hlen (fun _ => by omega) An cn wr (Kd.C_below hC.out (hBw.mono (Nat.le_refl _))) hcn)
            have hqt : [a, b, c][0]? = some a := rfl
            cases hcw : tword ns a with
            | none =>
              obtain rfl : r = none := hr.out.symm.trans (cwords_noterm hk.out hqt hcw)
              rw [hcw] at hcall
              replace hBw := Aside0.mk hBw
              clear hcw htw hjl hll
              go_wp2_with (go_at_call 58; refine hcall.out.mono ?_; rintro e w2 ⟨rfl, hb⟩; replace hb := Aside0.mk hb)
              go_ret2
              exact ⟨rfl, hBw.out.trans (hb.out.mono hBw.out.size)⟩
            | some x =>
              have hxl := tword_len hN (fun _ => by omega) hcw
              have htk : Aside0 (twords ns ([a, b, c].take 1) = some (l ++ [x])) := ⟨twords_snoc (l := [a, b, c].take 0) hcw htw⟩
              rw [hcw] at hcall
              simp only [Option.getD_some, Option.isSome_some] at hcall
              have hxS : (str x).size ≤ 1000 := by rw [str_size]; omega
              obtain rfl : l = [] := List.length_eq_zero_iff.1 hll
              have hcat : Aside0 (str ([45, 40] ++ join []) ++ str x = str ([45, 40] ++ join ([] ++ [x]))) := ⟨by
                rw [str_app]
                simp [join]⟩
              have hjn : Aside0 ((join ([] ++ [x])).length ≤ 40) := ⟨by simp [join]; omega⟩
              have hln : Aside0 (([] ++ [x] : List (List UInt8)).length = 1) := ⟨rfl⟩
              generalize str ([45, 40] ++ join []) = S1 at hSz hcat ⊢
              generalize str x = S2 at hxS hcat hcall
              clear hcw htw hjl hll hxl
              replace hBw := Aside0.mk hBw
              go_wp2_with (go_at_call 58; refine hcall.out.mono ?_; rintro e w2 ⟨rfl, hb⟩; have hx2 := Aside0.mk ((hb.block _ (blk_lt hxw)).trans hxw); replace hb := Aside0.mk hb)
              go_roundw
              case rel => exact ⟨1, [] ++ [x], rfl, by omega, hBw.out.trans (hb.out.mono hBw.out.size), hx2.out, htk.out, by rw [← hcat.out], hjn.out, hln.out⟩
              case measure => simp [intOf]
          · have hcall := Aside0.mk (rterm_walk b ns hlen (fun _ => by omega) An cn wr (Kd.C_below hC.out (hBw.mono (Nat.le_refl _))) hcn)
            have hqt : [a, b, c][1]? = some b := rfl
            cases hcw : tword ns b with
            | none =>
              obtain rfl : r = none := hr.out.symm.trans (cwords_noterm hk.out hqt hcw)
              rw [hcw] at hcall
              replace hBw := Aside0.mk hBw
              clear hcw htw hjl hll
              go_wp2_with (go_at_call 58; refine hcall.out.mono ?_; rintro e w2 ⟨rfl, hb⟩; replace hb := Aside0.mk hb)
              go_ret2
              exact ⟨rfl, hBw.out.trans (hb.out.mono hBw.out.size)⟩
            | some x =>
              have hxl := tword_len hN (fun _ => by omega) hcw
              have htk : Aside0 (twords ns ([a, b, c].take 2) = some (l ++ [x])) := ⟨twords_snoc (l := [a, b, c].take 1) hcw htw⟩
              rw [hcw] at hcall
              simp only [Option.getD_some, Option.isSome_some] at hcall
              have hxS : (str x).size ≤ 1000 := by rw [str_size]; omega
              have hne : l ≠ [] := fun e => by subst e; simp at hll
              have hcat : Aside0 (str ([45, 40] ++ join l) ++ ⟨#[32]⟩ ++ str x = str ([45, 40] ++ join (l ++ [x]))) := ⟨by
                show str ([45, 40] ++ join l) ++ str [32] ++ str x = _
                rw [str_app, str_app, join_snoc l hne]
                simp⟩
              have hjn : Aside0 ((join (l ++ [x])).length ≤ 40 * 2) := ⟨by rw [join_snoc l hne, List.length_append, List.length_cons]; omega⟩
              have hln : Aside0 ((l ++ [x]).length = 2) := ⟨by rw [List.length_append, hll]; rfl⟩
              clear hne
              generalize str ([45, 40] ++ join l) = S1 at hSz hcat ⊢
              generalize str x = S2 at hxS hcat hcall
              clear hcw htw hjl hll hxl
              replace hBw := Aside0.mk hBw
              go_wp2_with (go_at_call 58; refine hcall.out.mono ?_; rintro e w2 ⟨rfl, hb⟩; have hx2 := Aside0.mk ((hb.block _ (blk_lt hxw)).trans hxw); replace hb := Aside0.mk hb)
              go_roundw
              case rel => exact ⟨2, l ++ [x], rfl, by omega, hBw.out.trans (hb.out.mono hBw.out.size), hx2.out, htk.out, by rw [← hcat.out], hjn.out, hln.out⟩
              case measure => simp [intOf]
          · have hcall := Aside0.mk (rterm_walk c ns hlen (fun _ => by omega) An cn wr (Kd.C_below hC.out (hBw.mono (Nat.le_refl _))) hcn)
            have hqt : [a, b, c][2]? = some c := rfl
            cases hcw : tword ns c with
            | none =>
              obtain rfl : r = none := hr.out.symm.trans (cwords_noterm hk.out hqt hcw)
              rw [hcw] at hcall
              replace hBw := Aside0.mk hBw
              clear hcw htw hjl hll
              go_wp2_with (go_at_call 58; refine hcall.out.mono ?_; rintro e w2 ⟨rfl, hb⟩; replace hb := Aside0.mk hb)
              go_ret2
              exact ⟨rfl, hBw.out.trans (hb.out.mono hBw.out.size)⟩
            | some x =>
              have hxl := tword_len hN (fun _ => by omega) hcw
              have htk : Aside0 (twords ns ([a, b, c].take 3) = some (l ++ [x])) := ⟨twords_snoc (l := [a, b, c].take 2) hcw htw⟩
              rw [hcw] at hcall
              simp only [Option.getD_some, Option.isSome_some] at hcall
              have hxS : (str x).size ≤ 1000 := by rw [str_size]; omega
              have hne : l ≠ [] := fun e => by subst e; simp at hll
              have hcat : Aside0 (str ([45, 40] ++ join l) ++ ⟨#[32]⟩ ++ str x = str ([45, 40] ++ join (l ++ [x]))) := ⟨by
                show str ([45, 40] ++ join l) ++ str [32] ++ str x = _
                rw [str_app, str_app, join_snoc l hne]
                simp⟩
              have hjn : Aside0 ((join (l ++ [x])).length ≤ 40 * 3) := ⟨by rw [join_snoc l hne, List.length_append, List.length_cons]; omega⟩
              have hln : Aside0 ((l ++ [x]).length = 3) := ⟨by rw [List.length_append, hll]; rfl⟩
              clear hne
              generalize str ([45, 40] ++ join l) = S1 at hSz hcat ⊢
              generalize str x = S2 at hxS hcat hcall
              clear hcw htw hjl hll hxl
              replace hBw := Aside0.mk hBw
              go_wp2_with (go_at_call 58; refine hcall.out.mono ?_; rintro e w2 ⟨rfl, hb⟩; have hx2 := Aside0.mk ((hb.block _ (blk_lt hxw)).trans hxw); replace hb := Aside0.mk hb)
              go_roundw
              case rel => exact ⟨3, l ++ [x], rfl, by omega, hBw.out.trans (hb.out.mono hBw.out.size), hx2.out, htk.out, by rw [← hcat.out], hjn.out, hln.out⟩
              case measure => simp [intOf]
          · have htw : twords ns [a, b, c] = some l := htw
            obtain ⟨ws, he, hjw⟩ := cwords_term (k := 2) (subs := subs) hk.out htw
            obtain rfl : r = some _ := hr.out.symm.trans he
            have hcat : Aside0 (str ([45, 40] ++ join l) ++ ⟨#[41]⟩ = str (join ws)) := ⟨by
              show str ([45, 40] ++ join l) ++ str [41] = _
              rw [str_app, hjw]
              simp⟩
            generalize str ([45, 40] ++ join l) = S1 at hSz hcat ⊢
            replace hBw := Aside0.mk hBw
            clear htw he hjw hjl hll
            go_wp2
            go_ret2
            exact ⟨by simp only [Option.map_some, Option.getD_some, Option.isSome_some]; rw [← hcat.out]; rfl, hBw.out⟩
end Go.Proofs.YtkbkkceeolclmaaGreatDoor.X
