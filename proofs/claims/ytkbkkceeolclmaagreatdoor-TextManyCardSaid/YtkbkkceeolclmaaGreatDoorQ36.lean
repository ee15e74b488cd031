/- A condition's text, as the program writes it. A triple's text. A triple's text, read again. -/
import Derived.Test.YtkbkkceeolclmaaGreatDoorQ35
import Derived.Test.YtkbkkceeolclmaaGreatDoorQ32
set_option linter.unusedVariables false
set_option linter.unusedSimpArgs false
namespace Go.TX
theorem goodL_get : ∀ {l : List Cd} (j : Nat) (hj : j < l.length), goodL l → goodC l[j]
  | _ :: _, 0, _, h => h.1
  | _ :: l, j + 1, hj, h => goodL_get (l := l) j (by simpa using hj) h.2
theorem fullL_get : ∀ {l : List Cd} (j : Nat) (hj : j < l.length), fullL l → fullC l[j]
  | _ :: _, 0, _, h => h.1
  | _ :: l, j + 1, hj, h => fullL_get (l := l) j (by simpa using hj) h.2
/-- Terms' words. -/
def twords (ns : List (List UInt8)) : List Tm → Option (List (List UInt8))
  | [] => some []
  | t :: l => match tword ns t, twords ns l with
    | some a, some b => some (a :: b)
    | _, _ => none
theorem twords_snoc {ns : List (List UInt8)} {t : Tm} {a : List UInt8} (ht : tword ns t = some a) : ∀ {l : List Tm} {ts}, twords ns l = some ts → twords ns (l ++ [t]) = some (ts ++ [a])
  | [], ts, h => by
    cases h
    simp [twords, ht]
  | y :: l, ts, h => by
    unfold twords at h
    split at h
    · rename_i u v h1 h2
      cases h
      have := twords_snoc ht h2
      simp [twords, h1, this]
    · cases h
theorem cwords_term {ns : List (List UInt8)} {k : Int} {a b c : Tm} {subs : List Cd} (hk : k ≠ 3) {l} (h : twords ns [a, b, c] = some l) :
    ∃ ws, cwords ns (.mk k a b c subs) = some ws ∧ join ws = (if k = 2 then [45] else []) ++ ([40] ++ join l ++ [41]) := by
  unfold twords at h
  split at h
  · rename_i x l1 h1 h2
    cases h
    unfold twords at h2
    split at h2
    · rename_i y l2 h3 h4
      cases h2
      unfold twords at h4
      split at h4
      · rename_i z l3 h5 h6
        cases h4
        cases h6
        refine ⟨_, by simp [cwords, hk, h1, h3, h5]; rfl, ?_⟩
        simp [join]
      · cases h4
    · cases h2
  · cases h
theorem cwords_noterm {ns : List (List UInt8)} {k : Int} {a b c t : Tm} {subs : List Cd} (hk : k ≠ 3) {q : Nat} (hq : [a, b, c][q]? = some t) (h : tword ns t = none) : cwords ns (.mk k a b c subs) = none := by
  have : tword ns a = none ∨ tword ns b = none ∨ tword ns c = none := by
    match q, hq with
    | 0, hq => cases hq; exact .inl h
    | 1, hq => cases hq; exact .inr (.inl h)
    | 2, hq => cases hq; exact .inr (.inr h)
  unfold cwords
  rw [if_neg hk]
  rcases this with e | e | e <;> rw [e] <;> (repeat' split) <;> simp_all
end Go.TX
namespace Go.Proofs.YtkbkkceeolclmaaGreatDoor.X
open Go.RowKit Go.TX Go.Proofs.YtkbkkceeolclmaaGreatDoorW.PrintWords Go.Proofs.YtkbkkceeolclmaaGreatDoorL
theorem ixq (a b c : Tm) (q : Nat) (hq : q < 3) : ∃ t, [a, b, c][q]? = some t ∧ (∀ w, (Instr.index 70 (T3A a b c) (.int .i64 (q : Int))).run Tryz.prog w = .ok (.agg #[.bool t.1, .int .i64 t.2]) w) := by
  match q, hq with
  | 0, _ => exact ⟨a, rfl, fun w => ix0 _ _ _ _ _ _ w⟩
  | 1, _ => exact ⟨b, rfl, fun w => ix1 _ _ _ _ _ _ w⟩
  | 2, _ => exact ⟨c, rfl, fun w => ix2 _ _ _ _ _ _ w⟩
theorem str_app (a b : List UInt8) : str a ++ str b = str (a ++ b) := by
  apply ByteArray.ext
  simp [str]
set_option maxRecDepth 100000 in
set_option maxHeartbeats 4000000 in
theorem cond_walk {F : Nat → Prop} {tb : Nat} {ns : List (List UInt8)} (hN : ∀ s ∈ ns, s.length ≤ 32) (hlen : ns.length ≤ 1000000) (n : Nat) : ∀ (k : Int) (a b c : Tm) (subs : List Cd) (A : Option Addr) (cap : Nat) (w : World) (G : Nat → Prop), csizeL subs < n → n ≤ 1001 → goodC (.mk k a b c subs) → fullC (.mk k a b c subs) →
    RepL evA w G subs A 0 → Tb w F tb ns → Env w →
    Calls Tryz.prog 29 #[aC evA k a b c (.slice A subs.length cap), .pointer (some ⟨tb, 0, none⟩)] w fun e W => e = .returned (.tuple #[.string (str (((cwords ns (.mk k a b c subs)).map join).getD [])), .bool (cwords ns (.mk k a b c subs)).isSome]) ∧ Below w.heap.size w W := by
  induction n with
  | zero => intro k a b c subs A cap w G h; omega
  | succ n ih =>
    intro k a b c subs A cap w G hn hn1 hgood hfull hR hT hE
    obtain ⟨i0, hi, hz0, hz1, hz2⟩ := info_parts info9
    replace hi := Aside0.mk hi
    replace hz0 := Aside0.mk hz0
    replace hz1 := Aside0.mk hz1
    replace hz2 := Aside0.mk hz2
    have hsl := csizeL_len subs
    have hmax : 1000000 ≤ maxLen := by decide
    have hB0 := Aside0.mk ((Below.refl w.heap.size w).alloc (Nat.le_refl _) (oC evA 72 k a b c (.slice A subs.length cap)))
    have hx0 := Aside0.mk (blk_new w (oC evA 72 k a b c (.slice A subs.length cap)))
    have htot := Aside0.mk (fun ws (h : cwords ns (.mk k a b c subs) = some ws) => cwords_len hN _ ws hgood h)
    replace hR := Aside0.mk hR
    replace hT := Aside0.mk hT
    replace hE := Aside0.mk hE
    obtain ⟨r, hr⟩ : ∃ r, cwords ns (.mk k a b c subs) = r := ⟨_, rfl⟩
    rw [hr]
    replace hr := Aside0.mk hr
    by_cases hk : k = 3
    · subst hk
      have hgl := Aside0.mk (hgood.elim (fun q => absurd q.1 (by decide)) (fun q => q.2.2.2.2) : goodL subs)
      have hfl := Aside0.mk (hfull.2)
      have hne := Aside0.mk (hfull.1 rfl)
      clear hgood hfull
      go_enter Tryz.func29, Tryz.ntmps29
      go_upto_region 2 with fail
      generalize w.alloc (oC evA 72 3 a b c (.slice A subs.length cap)) = W0 at hB0 hx0 ⊢
      have e0 := (blk_cell hx0.out 0).trans (show _ = some (Value.int .i64 3) from rfl)
      have e7 := (blk_cell hx0.out 7).trans (show _ = some (Value.slice A subs.length cap) from rfl)
      go_upto_region 4 with fail
      go_loopw [22, 6] (fun i V wr => ∃ (j : Nat) (ts : List (List UInt8)), i = .int .i64 j ∧ j ≤ subs.length ∧ Below w.heap.size w wr ∧ ctexts ns (subs.take j) = some ts ∧ wr.ownsRow w.heap.size 9 1 V j (cellsN ts)) (fun i _ _ => subs.length - (intOf i).toNat)
      case atStart => exact ⟨0, [], rfl, Nat.zero_le _, hB0.out, rfl, World.ownsRow_nil _ _ _ _⟩
      case round =>
        obtain ⟨j, ts, rfl, hj, hBw, hts, hown⟩ := hrel
        clear hB0 hx0 e0 e7
        clear W0
        obtain ⟨A', cp, rfl⟩ := owns_form hown
        by_cases hlt : j < subs.length
        · obtain ⟨b', o, k', x, y, z, subs', B, cap', rfl, hbl, hx, hlen', hR', htk, hle, c0, c1, c2, c3, c4, c5, c6, c7⟩ := sub_at (hR.out.below hBw) hlt
          have hAB : Below wr.heap.size wr (wr.alloc (oC evA 72 k' x y z (.slice B subs'.length cap'))) := (Below.refl _ _).alloc (Nat.le_refl _) _
          have hBW := Aside0.mk (hBw.trans (hAB.mono hBw.size))
          have hxW := Aside0.mk (blk_new wr (oC evA 72 k' x y z (.slice B subs'.length cap')))
          have hcall := Aside0.mk (ih k' x y z subs' B cap' (wr.alloc (oC evA 72 k' x y z (.slice B subs'.length cap'))) G (by omega) (by omega) (hx ▸ goodL_get j hlt hgl.out) (hx ▸ fullL_get j hlt hfl.out) (hR'.below hAB) (hT.out.below hBW.out) (hE.out.below hBW.out))
          have hoW := Aside0.mk (owns_below hown hAB)
          clear hown hBw hAB hR' htk hle
          go_upto_region 6 with fail
          generalize wr.alloc (oC evA 72 k' x y z (.slice B subs'.length cap')) = W at hBW hxW hcall hoW ⊢
          generalize wr.heap.size = g at hxW ⊢
          clear c0 c1 c2 c3 c4 c5 c6 c7 hbl
          clear wr
          obtain ⟨d0, d1, d2, d3, d4, d5, d6, d7⟩ := box8 hxW.out
          cases hcw : cwords ns subs[j] with
          | none =>
            have hnone := cwordsL_none hlt hcw
            have he : cwords ns (.mk 3 a b c subs) = none := by simp [cwords, hnone]
            obtain rfl : r = none := hr.out.symm.trans he
            rw [← hx, hcw] at hcall
            clear he hnone hcw hts
            replace hx := Aside0.mk hx
            go_wp2_with (go_at_call 29; refine hcall.out.mono ?_; rintro e w2 ⟨rfl, hb⟩; replace hb := Aside0.mk hb)
            go_ret2
            exact ⟨rfl, hBW.out.trans (hb.out.mono hBW.out.size)⟩
          | some wj =>
            have htk : ctexts ns (subs.take (j + 1)) = some (ts ++ [join wj]) := by
              rw [List.take_succ_eq_append_getElem hlt]
              exact ctexts_snoc hcw hts
            rw [← hx, hcw] at hcall
            simp only [Option.map_some, Option.getD_some, Option.isSome_some] at hcall
            replace hts := Aside0.mk hts
            replace htk := Aside0.mk htk
            replace hcw := Aside0.mk hcw
            replace hx := Aside0.mk hx
            have hj1 : j + 1 ≤ maxLen := by omega
            have hj2 : (j + 1) * 16 ≤ 140737488355328 := by omega
            go_wp2_with (first | (go_at_call 29; refine hcall.out.mono ?_; rintro e w2 ⟨rfl, hb⟩; have hA2 := (Below.refl w2.heap.size w2).alloc (Nat.le_refl _) (.cells #[.string (str (join wj))] 9); have ho2 := Aside0.mk (owns_below (owns_below hoW.out hb) hA2); have hn2 := Aside0.mk (blk_new w2 (.cells #[.string (str (join wj))] 9)); have hb2 := Aside0.mk ((hBW.out.trans (hb.mono hBW.out.size)).trans (hA2.mono (Nat.le_trans hBW.out.size hb.size))); replace hb := Aside0.mk hb; clear hA2) | (at_builtin; refine wpList_append_own2 rfl _ _ 22 rfl w.heap.size 9 i0 (.string ⟨#[]⟩) 1 16 Tryz.underlying22 hi.out hz0.out hz1.out hz2.out rfl (by decide) _ j (cellsN ts) rfl ho2.out ⟨w2.heap.size, 0, none⟩ 1 1 [.string (str (join wj))] rfl (by decide) rfl (cells_at hn2.out) (by simp [Value.oneCell']) hj1 hj2 hb2.out.size ?_; intro v4 w4 ho4 hg4 hf4; replace ho4 := Aside0.mk ho4; replace hg4 := Aside0.mk hg4; clear hf4))
            go_roundw
            case rel => exact ⟨j + 1, ts ++ [join wj], by go_num, by omega, hb2.out.grown hg4.out hb2.out.size (fun b hb => (owner_lt ho2.out hb).1), htk.out, by simpa [cellsN] using ho4.out⟩
            case measure => simp [intOf]; omega
        · obtain rfl : j = subs.length := by omega
          rw [List.take_length] at hts
          obtain ⟨ws, hws, _⟩ := ctexts_words hts
          have hjn := ctexts_join hts hws hne.out
          have hwne : ws ≠ [] := fun e => by
            subst e
            cases subs with
            | nil => exact hne.out rfl
            | cons y l =>
              unfold cwordsL at hws
              split at hws
              · rename_i u v h1 h2
                have := cwords_ne ns y u h1
                cases u with
                | nil => exact this rfl
                | cons p q => cases hws
              · cases hws
          have he := cwords_three (a := a) (b := b) (c := c) hws
          have hlw := htot.out _ he
          obtain rfl : r = some _ := hr.out.symm.trans he
          have hlt2 := ctexts_len hts
          have hjl : (join ts).length ≤ 200000 := by
            rw [show [45, 123] :: (ws ++ [[125]]) = [[45, 123]] ++ ws ++ [[125]] by simp, tail_app, tail_app, tail_join hwne] at hlw
            rw [hjn]
            simp only [List.length_append, List.length_cons, csize] at hlw
            omega
          have hcall := Aside0.mk (join_any ts (by rw [hlt2]; exact hown) (by omega) (by omega))
          have hfin : str (join ([45, 123] :: (ws ++ [[125]]))) = ⟨#[45, 123, 32]⟩ ++ str (join ts) ++ ⟨#[32, 125]⟩ := by
            rw [join_group, tail_join hwne, ← hjn]
            show _ = str [45, 123, 32] ++ str (join ts) ++ str [32, 125]
            rw [str_app, str_app]
            simp
          rw [← str_size] at hjl
          clear he hlw hjn hwne hws hts
          generalize str (join ts) = S at hcall hjl hfin
          replace hfin := Aside0.mk hfin
          replace hBw := Aside0.mk hBw
          replace hown := Aside0.mk hown
          go_wp2_with (go_at_call 47; refine hcall.out.mono ?_; rintro e w2 ⟨rfl, hb⟩; replace hb := Aside0.mk hb)
          go_ret2
          exact ⟨by simp only [Option.map_some, Option.getD_some, Option.isSome_some]; rw [hfin.out]; rfl, hBw.out.trans (hb.out.mono hBw.out.size)⟩
    · obtain ⟨hk12, hta, htb, htc, hsn⟩ := hgood.elim (fun q => q) (fun q => absurd q.1 hk)
      have htm : Aside0 (∀ (q : Nat) (t : Tm), [a, b, c][q]? = some t → tmRight t = true) := ⟨fun q t h => by
        match q, h with
        | 0, h => cases h; exact hta
        | 1, h => cases h; exact htb
        | 2, h => cases h; exact htc⟩
      clear hgood hfull hta htb htc hsn ih
      have hk3 : (k == 3) = false := by simpa using hk
      replace hk := Aside0.mk hk
      go_enter Tryz.func29, Tryz.ntmps29
      go_upto_region 2 with fail
      generalize w.alloc (oC evA 72 k a b c (.slice A subs.length cap)) = W0 at hB0 hx0 ⊢
      obtain ⟨e0, e1, e2, e3, e4, e5, e6, e7⟩ := box8 hx0.out
      go_upto_region 13 with fail
      go_loopw [45, 6] (fun i V wr => ∃ (q : Nat) (l : List (List UInt8)), i = .int .i64 q ∧ q ≤ 3 ∧ Below w.heap.size w wr ∧ wr.heap[w.heap.size]? = some (oC evA 72 k a b c (.slice A subs.length cap)) ∧ twords ns ([a, b, c].take q) = some l ∧ wr.ownsRow w.heap.size 9 1 V q (cellsN l)) (fun i _ _ => 3 - (intOf i).toNat)
      case atStart => exact ⟨0, [], rfl, Nat.zero_le _, hB0.out, hx0.out, rfl, World.ownsRow_nil _ _ _ _⟩
      case round =>
        obtain ⟨q, l, rfl, hq, hBw, hxw, htw, hown⟩ := hrel
        clear hB0 hx0 e0 e1 e2 e3 e4 e5 e6 e7
        clear W0
        obtain ⟨A', cp, rfl⟩ := owns_form hown
        by_cases hlt : q < 3
        · obtain ⟨t, hqt, hix⟩ := ixq a b c q hlt
          have hAB : Below wr.heap.size wr (wr.alloc (.cells #[.bool t.1, .int .i64 t.2] 69)) := (Below.refl _ _).alloc (Nat.le_refl _) _
          have hBW := Aside0.mk (hBw.trans (hAB.mono hBw.size))
          have hxW := Aside0.mk (blk_alloc hxw (.cells #[.bool t.1, .int .i64 t.2] 69))
          have htW := Aside0.mk (blk_new wr (.cells #[.bool t.1, .int .i64 t.2] 69))
          have hoW := Aside0.mk (owns_below hown hAB)
          have hcall := Aside0.mk (word_walk t (htm.out q t hqt) (hT.out.below hBW.out) hlen (hE.out.below hBW.out))
          replace htw := Aside0.mk htw
          replace hqt := Aside0.mk hqt
          clear hown hBw hAB hxw
          go_upto_region 15 with fail
          generalize wr.alloc (.cells #[.bool t.1, .int .i64 t.2] 69) = W at hBW hxW hcall hoW htW ⊢
          generalize wr.heap.size = g at htW ⊢
          clear wr hix
          have d0 := (blk_cell htW.out 0).trans (show _ = some (Value.bool t.1) from rfl)
          have d1 := (blk_cell htW.out 1).trans (show _ = some (Value.int .i64 t.2) from rfl)
          cases hcw : tword ns t with
          | none =>
            obtain rfl : r = none := hr.out.symm.trans (cwords_noterm hk.out hqt.out hcw)
            rw [hcw] at hcall
            clear hcw
            go_wp2_with (go_at_call 54; refine hcall.out.mono ?_; rintro e w2 ⟨rfl, hb⟩; replace hb := Aside0.mk hb)
            go_ret2
            exact ⟨rfl, hBW.out.trans (hb.out.mono hBW.out.size)⟩
          | some x =>
            have htk : Aside0 (twords ns ([a, b, c].take (q + 1)) = some (l ++ [x])) := ⟨by
              have hq3 : q < [a, b, c].length := hlt
              have e : [a, b, c][q] = t := by
                have := hqt.out
                rw [List.getElem?_eq_getElem hq3] at this
                exact Option.some.inj this
              rw [List.take_succ_eq_append_getElem hq3, e]
              exact twords_snoc hcw htw.out⟩
            rw [hcw] at hcall
            simp only [Option.getD_some, Option.isSome_some] at hcall
            replace hcw := Aside0.mk hcw
            have hj1 : q + 1 ≤ maxLen := by omega
            have hj2 : (q + 1) * 16 ≤ 140737488355328 := by omega
            go_wp2_with (first | (go_at_call 54; refine hcall.out.mono ?_; rintro e w2 ⟨rfl, hb⟩; have hA2 := (Below.refl w2.heap.size w2).alloc (Nat.le_refl _) (.cells #[.string (str x)] 9); have ho2 := Aside0.mk (owns_below (owns_below hoW.out hb) hA2); have hx2 := Aside0.mk ((hA2.block _ (blk_lt ((hb.block _ (blk_lt hxW.out)).trans hxW.out))).trans ((hb.block _ (blk_lt hxW.out)).trans hxW.out)); have hn2 := Aside0.mk (blk_new w2 (.cells #[.string (str x)] 9)); have hb2 := Aside0.mk ((hBW.out.trans (hb.mono hBW.out.size)).trans (hA2.mono (Nat.le_trans hBW.out.size hb.size))); replace hb := Aside0.mk hb; clear hA2) | (at_builtin; refine wpList_append_own2 rfl _ _ 22 rfl w.heap.size 9 i0 (.string ⟨#[]⟩) 1 16 Tryz.underlying22 hi.out hz0.out hz1.out hz2.out rfl (by decide) _ q (cellsN l) rfl ho2.out ⟨w2.heap.size, 0, none⟩ 1 1 [.string (str x)] rfl (by decide) rfl (cells_at hn2.out) (by simp [Value.oneCell']) hj1 hj2 hb2.out.size ?_; intro v4 w4 ho4 hg4 hf4; replace ho4 := Aside0.mk ho4; replace hg4 := Aside0.mk hg4; clear hf4))
            go_roundw
            case rel => exact ⟨q + 1, l ++ [x], by go_num, by omega, hb2.out.grown hg4.out hb2.out.size (fun b hb => (owner_lt ho2.out hb).1), (hg4.out.block _ (blk_lt hx2.out) (fun e => (by obtain ⟨cs, hcs⟩ := own_typed ho2.out _ e.symm; exact ne_type hcs hx2.out (by decide) rfl))).trans hx2.out, htk.out, by simpa [cellsN] using ho4.out⟩
            case measure => simp [intOf]; omega
        · obtain rfl : q = 3 := by omega
          have htw : twords ns [a, b, c] = some l := htw
          obtain ⟨ws, he, hjw⟩ := cwords_term (k := k) (subs := subs) hk.out htw
          have hlw := htot.out _ he
          have hwne := cwords_ne ns _ ws he
          obtain rfl : r = some _ := hr.out.symm.trans he
          have hl3 : l.length = 3 := by
            have := hown.1
            rw [cellsN_len] at this
            omega
          have hjl : (join l).length ≤ 200000 := by
            rw [tail_join hwne, List.length_cons, hjw] at hlw
            simp only [List.length_append, csize] at hlw
            omega
          have hcall := Aside0.mk (join_any l (by rw [hl3]; exact hown) (by omega) (by omega))
          have hfin : Aside0 (∀ P, str P ++ (⟨#[40]⟩ ++ str (join l) ++ ⟨#[41]⟩) = str (P ++ ([40] ++ join l ++ [41]))) := ⟨fun P => by
            show str P ++ (str [40] ++ str (join l) ++ str [41]) = _
            rw [str_app, str_app, str_app]⟩
          replace hjw := Aside0.mk hjw
          rw [← str_size] at hjl
          clear he hlw hwne htw
          have hbx := Aside0.mk (fun W (hb : Below wr.heap.size wr W) => (blk_cell ((hb.block _ (blk_lt hxw)).trans hxw) 0).trans (show _ = some (Value.int .i64 k) from rfl))
          replace hBw := Aside0.mk hBw
          replace hown := Aside0.mk hown
          clear hxw
          generalize str (join l) = S at hcall hjl hfin
          have hke : k = 1 ∨ k = 2 := hk12
          rcases hke with rfl | rfl
          · go_wp2_with (go_at_call 47; refine hcall.out.mono ?_; rintro e w2 ⟨rfl, hb⟩; have b0 := hbx.out w2 hb; replace hb := Aside0.mk hb)
            go_ret2
            refine ⟨?_, hBw.out.trans (hb.out.mono hBw.out.size)⟩
            have h := hfin.out []
            simp only [Option.map_some, Option.getD_some, Option.isSome_some]
            rw [hjw.out, if_neg (by decide), ← h]
            have e : str [] ++ (⟨#[40]⟩ ++ S ++ ⟨#[41]⟩) = ⟨#[40]⟩ ++ S ++ ⟨#[41]⟩ := by apply ByteArray.ext; simp [str]
            rw [e]
            rfl
          · go_wp2_with (go_at_call 47; refine hcall.out.mono ?_; rintro e w2 ⟨rfl, hb⟩; have b0 := hbx.out w2 hb; replace hb := Aside0.mk hb)
            go_ret2
            refine ⟨?_, hBw.out.trans (hb.out.mono hBw.out.size)⟩
            have h := hfin.out [45]
            simp only [Option.map_some, Option.getD_some, Option.isSome_some]
            rw [hjw.out, if_pos trivial, ← h]
            rfl
end Go.Proofs.YtkbkkceeolclmaaGreatDoor.X
namespace Go.TX
end Go.TX
namespace Go.Proofs.YtkbkkceeolclmaaGreatDoor.X
open Go.RowKit Go.TX Go.Proofs.YtkbkkceeolclmaaGreatDoorW.PrintWords Go.Proofs.YtkbkkceeolclmaaGreatDoorL
end Go.Proofs.YtkbkkceeolclmaaGreatDoor.X
namespace Go.Proofs.YtkbkkceeolclmaaGreatDoor.X
open Go.RowKit Go.TX Go.Proofs.YtkbkkceeolclmaaGreatDoorW.PrintWords Go.Proofs.YtkbkkceeolclmaaGreatDoorL
end Go.Proofs.YtkbkkceeolclmaaGreatDoor.X
namespace Go.TX
/-- No more names come than words. -/
theorem tparse_names {ns : List (List UInt8)} (hN : Names ns) (s : List UInt8) : Names (tparse ns s).2.1 ∧ (tparse ns s).2.1.length ≤ ns.length + 3 := by
  unfold tparse
  split
  · rename_i x y z e
    unfold tpar3
    split
    · exact ⟨hN, by simp⟩
    · rename_i h1
      split
      · exact ⟨hN, by simp⟩
      · have hr : rn x = true ∧ rn y = true ∧ rn z = true := by
          simp only [Bool.not_eq_false, Bool.and_eq_true] at h1
          exact ⟨h1.1.1, h1.1.2, h1.2⟩
        have := St.names (ns := ns) (x := x) (y := y) (z := z) (q := 3) (now := n3 ns x y z) ⟨rfl, hr, rfl, rfl, rfl⟩ hN
        exact this
  · exact ⟨hN, by simp⟩
end Go.TX
