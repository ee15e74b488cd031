/- The law TextTriples. -/
import Derived.Deep.QuietTactic
import Derived.BigQuiet
import Derived.Laws.StructEq
import Derived.Laws.Tables
import Derived.Laws.Cover2
import Derived.Test.YtkbkkceeolclmaaGreatDoorQ32
import Derived.Test.YtkbkkceeolclmaaGreatDoorQ36
import Derived.Test.YtkbkkceeolclmaaGreatDoorQ37
set_option linter.unusedVariables false
set_option linter.unusedSimpArgs false
namespace Go.Proofs.YtkbkkceeolclmaaGreatDoor.X
open Go.RowKit Go.TX Go.Proofs.YtkbkkceeolclmaaGreatDoorW.PrintWords Go.Proofs.YtkbkkceeolclmaaGreatDoorL
theorem eq56 (n : Nat) (a b c d e f : Int) (w : World) : (Op.equalIn (n + 2) 56 (.agg #[.int .i64 a, .int .i64 b, .int .i64 c]) (.agg #[.int .i64 d, .int .i64 e, .int .i64 f])).run Tryz.prog w = .ok (a == d && (b == e && c == f)) w := by
  have u3 := Tryz.underlying3
  have a3 := Tryz.isAgg3
  have z3 := Tryz.sizeOf3
  rw [Op.equalIn]
  simp only [Sem.run_bind, run_underlying Tryz.underlying56, Result.andThen_ok]
  simp only [Std.Legacy.Range.forIn_eq_forIn_range', Std.Legacy.Range.size, Nat.sub_zero, Nat.add_sub_cancel, Nat.div_one, List.range'_succ, List.range'_zero, List.forIn_cons, List.forIn_nil]
  go_simp
  by_cases h1 : a = d <;> by_cases h2 : b = e <;> by_cases h3 : c = f <;> simp [h1, h2, h3]
theorem eq56s (n : Nat) (a b c : Int) (w : World) : (Op.equalIn (n + 2) 56 (.agg #[.int .i64 a, .int .i64 b, .int .i64 c]) (.agg #[.int .i64 a, .int .i64 b, .int .i64 c])).run Tryz.prog w = .ok true w := by rw [eq56]; simp
attribute [local go_sem high] eq56s ia560 ia561 ia562
attribute [local go_sem] YReg.envOf
theorem ix22n {b o n c j : Nat} (hj : j < n) (W : World) : (Instr.indexAt 22 (.slice (some ⟨b, o, none⟩) n c) (.int .i64 (j : Int))).run Tryz.prog W = .ok (.pointer (some ⟨b, o + j, none⟩)) W := by
  have h := run_indexAt_slice (P := Tryz.prog) (w := W) 22 ⟨b, o, none⟩ n c .i64 (j : Int) (by kernel_rfl)
  rw [if_pos (by omega)] at h
  refine h.trans ?_
  have e2 : (sizeOf (Tryz.prog.elem 22)).run Tryz.prog W = .ok 1 W := by kernel_rfl
  rw [e2]
  simp [Addr.add, Result.andThen]
theorem wr0 {k : Nat} (h : k ≤ 100000) : IntKind.i64.wrap (k : Int) = (k : Int) := by
  simp only [IntKind.wrap_i64]
  omega
theorem wr0' {k : Nat} (h : k ≤ 100000) : IntKind.i64.wrap ((k : Int) + 1 - 1) = (k : Int) := by
  simp only [IntKind.wrap_i64]
  omega
theorem TS.below {w W W2 : World} {t : Nat} {v : Value} {ns : List (List UInt8)} (h : TS w W t v ns) (hb : Below W.heap.size W W2) : TS w W2 t v ns := by
  obtain ⟨T, P, h1, h2, h3, h4, h5, h6⟩ := h
  exact ⟨T, P, h1.below hb, h2.below hb, fun b q => ⟨(h3 b q).1, Nat.lt_of_lt_of_le (h3 b q).2 hb.size⟩, fun b q => ⟨(h4 b q).1, Nat.lt_of_lt_of_le (h4 b q).2 hb.size⟩, h5, h6.trans (hb.mono h6.size)⟩
/-- The table has been read again; its names, and the document's. -/
theorem TS.fr {w W W2 : World} {T T' P : Nat → Prop} {t : Nat} {v : Value} {ns now : List (List UInt8)} (hP : DN w.heap.size P W v ns) (hTb : ∀ b, T b → w.heap.size ≤ b ∧ b < W.heap.size) (hPb : ∀ b, P b → w.heap.size ≤ b ∧ b < W.heap.size) (hTP : ∀ b, T b → ¬ P b) (hB : Below w.heap.size w W)
    (hf : Fr W W2 T) (hT' : ∀ b, T' b → T b ∨ W.heap.size ≤ b) (ht : Tb W2 T' t now) : (now = ns → TS w W2 t v ns) ∧ RN W2 v ns ∧ Below w.heap.size w W2 ∧ (∀ b, T' b → w.heap.size ≤ b) := by
  have hP2 : DN w.heap.size P W2 v ns := hP.step fun b q hl => hf.ch.block b hl (fun q2 => hTP b q2 q)
  have hB2 : Below w.heap.size w W2 := hB.trans (hf.below hB.size (fun b q => (hTb b q).1))
  have hz := hf.ch.size
  refine ⟨fun e => ?_, RN.of hP2, hB2, fun b q => (hT' b q).elim (fun q => (hTb b q).1) (fun q => Nat.le_trans hB.size q)⟩
  subst e
  have h2 := tight' ht
  exact ⟨_, P, h2, hP2, fun b q => ⟨(hT' b q.1).elim (fun q => (hTb b q).1) (fun q => Nat.le_trans hB.size q), q.2⟩, fun b q => ⟨(hPb b q).1, Nat.lt_of_lt_of_le (hPb b q).2 hz⟩, fun b q p => (hT' b q.1).elim (fun q => hTP b q p) (fun q => by have := (hPb b p).2; omega), hB2⟩
set_option maxRecDepth 100000 in
set_option maxHeartbeats 8000000 in
theorem law_triples (inp : List (List UInt8)) (A0 : Option Addr) (cap0 : Nat) (a b c : Int) (s : List UInt8) (w : World) (hC : Kd.C Kd.string w A0 inp.length (inp.map str)) (hcap : inp.length ≤ cap0) (hE : Env w) :
    Calls Tryz.prog 7 #[.slice A0 inp.length cap0, .agg #[.int .i64 a, .int .i64 b, .int .i64 c], .string (str s)] w fun e W => e = .returned (.bool true) ∧ Below w.heap.size w W := by
  have hB0 := Aside0.mk ((Below.refl w.heap.size w).alloc (Nat.le_refl _) (o56 a b c))
  have hx0 := Aside0.mk (blk_new w (o56 a b c))
  have htab := Aside0.mk (table_walk inp A0 cap0 (w.alloc (o56 a b c)) (Kd.C_below hC hB0.out) hcap)
  have hnsl := Aside0.mk (tabN_len inp)
  have hnsn := Aside0.mk (tabN_names inp)
  generalize tabN inp = ns at htab hnsl hnsn
  replace hE := Aside0.mk hE
  clear hC
  go_enter Tryz.func7, Tryz.ntmps7
  go_upto_region 1 with fail
  generalize w.alloc (o56 a b c) = W0 at hB0 hx0 htab ⊢
  generalize hg : w.heap.size = g at hx0 ⊢
  have hgl : g < W0.heap.size := blk_lt hx0.out
  replace hg := Aside0.mk hg
  go_upto_region 2 with (go_at_call 8; refine htab.out.mono ?_; rintro e W1 (⟨hok, t, v, rfl, hts⟩ | ⟨hno, rfl, hb1⟩))
  rotate_left
  · have hB1 := Aside0.mk (hB0.out.trans (hb1.mono hB0.out.size))
    have haw := Aside0.mk (awake_walk W1 (hE.out.of hB1.out (Nat.le_refl _)))
    replace hb1 := Aside0.mk hb1
    clear hno
    go_wp2_with (go_at_call 10; refine haw.out.mono ?_; rintro e w2 ⟨rfl, hb2⟩; replace hb2 := Aside0.mk hb2)
    go_ret
    exact ⟨rfl, hB1.out.trans (hb2.out.mono hB1.out.size)⟩
  obtain ⟨Av, cv, rfl, hcv, -⟩ : ∃ Av cv, v = .slice Av ns.length cv ∧ ns.length ≤ cv ∧ True := by
    obtain ⟨T, P, hT, hP, hTb, hPb, hTP, hb1⟩ := id hts
    obtain ⟨Av, cv, e, hcv, -⟩ := hP.reads
    exact ⟨Av, cv, e, hcv, trivial⟩
  have hnl : ns.length ≤ 40 := by have := hnsl.out; have := hok.1; omega
  replace hts := Aside0.mk hts
  clear hok htab
  have hb1 : Below W0.heap.size W0 W1 := by obtain ⟨T, P, -, -, -, -, -, q⟩ := hts.out; exact q
  have hB1 := Aside0.mk (hB0.out.trans (hb1.mono hB0.out.size))
  by_cases h200 : 200 < s.length
  · have hsz : decide ((200 : Int) < ((str s).size : Int)) = true := decide_eq_true (by rw [str_size]; omega)
    have haw := Aside0.mk (awake_walk W1 (hE.out.of hB1.out (Nat.le_refl _)))
    clear hb1
    generalize str s = S at hsz
    go_wp2_with (go_at_call 10; refine haw.out.mono ?_; rintro e w2 ⟨rfl, hb2⟩; replace hb2 := Aside0.mk hb2)
    go_ret
    exact ⟨rfl, hB1.out.trans (hb2.out.mono hB1.out.size)⟩
  have hsz : decide ((200 : Int) < ((str s).size : Int)) = false := decide_eq_false (by rw [str_size]; omega)
  have hx1 := Aside0.mk (blk_below hx0.out hb1)
  have hshort := Aside0.mk (names_short hnsn.out)
  have h24 : Aside0 (Calls Tryz.prog 24 #[.agg #[.int .i64 a, .int .i64 b, .int .i64 c], .pointer (some ⟨t, 0, none⟩)] W1 fun e W => e = .returned (.tuple #[.string (str (t3text ns a b c).1), .int .i64 (t3text ns a b c).2]) ∧ Below W1.heap.size W1 W) := ⟨by
    obtain ⟨T, P, hT, -⟩ := hts.out
    exact t3_walk hshort.out (by omega) a b c W1 hT⟩
  have e0 := (blk_cell hx1.out 0).trans (show _ = some (Value.int .i64 a) from rfl)
  have e1 := (blk_cell hx1.out 1).trans (show _ = some (Value.int .i64 b) from rfl)
  have e2 := (blk_cell hx1.out 2).trans (show _ = some (Value.int .i64 c) from rfl)
  obtain ⟨X, hX⟩ : ∃ X, str s = X := ⟨_, rfl⟩
  rw [hX] at hsz ⊢
  replace hX := Aside0.mk hX
  obtain ⟨⟨tx, tc⟩, h3⟩ : ∃ q, t3text ns a b c = q := ⟨_, rfl⟩
  rw [h3] at h24
  simp only at h24
  replace h3 := Aside0.mk h3
  obtain ⟨G, hG⟩ : ∃ G, str tx = G := ⟨_, rfl⟩
  rw [hG] at h24
  replace hG := Aside0.mk hG
  clear hb1 hx0
  go_upto_region 5 with (go_at_call 24; refine h24.out.mono ?_; rintro e W2 ⟨rfl, hb2⟩)
  have hB2 := Aside0.mk (hB1.out.trans (hb2.mono hB1.out.size))
  have hx2 := Aside0.mk (blk_below hx1.out hb2)
  have ht2 := Aside0.mk (hts.out.below hb2)
  have h25 := Aside0.mk (right25 a b c W2)
  clear e0 e1 e2 hb2 h24 hts hB1 hx1
  clear W1
  have e0 := (blk_cell hx2.out 0).trans (show _ = some (Value.int .i64 a) from rfl)
  have e1 := (blk_cell hx2.out 1).trans (show _ = some (Value.int .i64 b) from rfl)
  have e2 := (blk_cell hx2.out 2).trans (show _ = some (Value.int .i64 c) from rfl)
  have hcs : (tripR a b c = false ∧ tx = [] ∧ tc = 4) ∨ (tripR a b c = true ∧ ((ns.length : Int) < a ∨ (ns.length : Int) < b ∨ (ns.length : Int) < c) ∧ tx = [] ∧ tc = 16) ∨ (tripR a b c = true ∧ a ≤ ns.length ∧ b ≤ ns.length ∧ c ≤ ns.length ∧ ∃ x y z, tx = join [x, y, z] ∧ tc = 0 ∧ tword ns (false, a) = some x ∧ tword ns (false, b) = some y ∧ tword ns (false, c) = some z) := by
    cases hok : tripR a b c with
    | false =>
      have := h3.out
      unfold t3text at this
      rw [if_pos hok] at this
      cases this
      exact .inl ⟨rfl, rfl, rfl⟩
    | true =>
      by_cases hm : (ns.length : Int) < a ∨ (ns.length : Int) < b ∨ (ns.length : Int) < c
      · have := h3.out
        rw [t3_none hok hm] at this
        cases this
        exact .inr (.inl ⟨rfl, hm, rfl, rfl⟩)
      · obtain ⟨x, y, z, e, hx, hy, hz⟩ := t3_some hok (show a ≤ ns.length by omega) (show b ≤ ns.length by omega) (show c ≤ ns.length by omega)
        have := h3.out
        rw [e] at this
        cases this
        exact .inr (.inr ⟨rfl, by omega, by omega, by omega, x, y, z, rfl, rfl, hx, hy, hz⟩)
  clear h3
  rcases hcs with ⟨hok, rfl, rfl⟩ | ⟨hok, hm, rfl, rfl⟩ | ⟨hok, ha, hb, hc, x, y, z, rfl, rfl, hx, hy, hz⟩
  case' inl =>
    rw [hok] at h25
    obtain rfl : G = ⟨#[]⟩ := hG.out.symm
    clear hok hG
    go_upto_region 14 with (go_at_call 25; refine h25.out.mono ?_; rintro e W5 ⟨rfl, hb3⟩; replace hb3 := Aside0.mk hb3)
    have hB5 := Aside0.mk (hB2.out.trans (hb3.out.mono hB2.out.size))
    have ht5 := Aside0.mk (ht2.out.below hb3.out)
    clear e0 e1 e2 hb3 h25 ht2 hB2 hx2
  case' inr.inl =>
    rw [hok] at h25
    obtain rfl : G = ⟨#[]⟩ := hG.out.symm
    clear hok hG
    go_upto_region 8 with (go_at_call 25; refine h25.out.mono ?_; rintro e W5 ⟨rfl, hb3⟩; replace hb3 := Aside0.mk hb3)
    have hB5 := Aside0.mk (hB2.out.trans (hb3.out.mono hB2.out.size))
    have ht5 := Aside0.mk (ht2.out.below hb3.out)
    have hx5 := blk_below hx2.out hb3.out
    clear e0 e1 e2 hb3 h25 ht2 hB2 hx2
    have e0 := (blk_cell hx5 0).trans (show _ = some (Value.int .i64 a) from rfl)
    have e1 := (blk_cell hx5 1).trans (show _ = some (Value.int .i64 b) from rfl)
    have e2 := (blk_cell hx5 2).trans (show _ = some (Value.int .i64 c) from rfl)
    go_upto_region 14 with fail
    clear hx5 e0 e1 e2 hm
  case' inr.inr =>
    have a1 := tripR_get (q := 0) hok rfl
    have b1 := tripR_get (q := 1) hok rfl
    have c1 := tripR_get (q := 2) hok rfl
    rw [hok] at h25
    clear hok
    obtain ⟨ja, rfl⟩ : ∃ j : Nat, a = (j : Int) + 1 := ⟨(a - 1).toNat, by omega⟩
    obtain ⟨jb, rfl⟩ : ∃ j : Nat, b = (j : Int) + 1 := ⟨(b - 1).toNat, by omega⟩
    obtain ⟨jc, rfl⟩ : ∃ j : Nat, c = (j : Int) + 1 := ⟨(c - 1).toNat, by omega⟩
    go_upto_region 8 with (go_at_call 25; refine h25.out.mono ?_; rintro e W3 ⟨rfl, hb3⟩; replace hb3 := Aside0.mk hb3)
    have hB3 := Aside0.mk (hB2.out.trans (hb3.out.mono hB2.out.size))
    have ht3 := Aside0.mk (ht2.out.below hb3.out)
    have hx3 := Aside0.mk (blk_below hx2.out hb3.out)
    clear e0 e1 e2 hb3 h25 ht2 hB2 hx2
    have e0 := (blk_cell hx3.out 0).trans (show _ = some (Value.int .i64 ((ja : Int) + 1)) from rfl)
    have e1 := (blk_cell hx3.out 1).trans (show _ = some (Value.int .i64 ((jb : Int) + 1)) from rfl)
    have e2 := (blk_cell hx3.out 2).trans (show _ = some (Value.int .i64 ((jc : Int) + 1)) from rfl)
    obtain ⟨T, P, hT, hP, hTb, hPb, hTP, hB⟩ := id ht3.out
    have hxl := hshort.out x (tword_mem hx).1
    have hyl := hshort.out y (tword_mem hy).1
    have hzl := hshort.out z (tword_mem hz).1
    have h22 := tparse_walk hT (fun b q => (hTb b q).2) hnsn.out (by omega) (hE.out.of hB3.out (Nat.le_refl _)) (join [x, y, z]) (by rw [join_cons]; simp; omega)
    rw [tparse_back hnsn.out (by omega) hx hy hz, hG.out] at h22
    replace h22 := Aside0.mk h22
    have hgT : ¬ T g := fun q => by have := (hTb g q).1; omega
    have hnext : Aside0 (∀ (W2 : World) (T' : Nat → Prop), Fr W3 W2 T → (∀ b, T' b → T b ∨ W3.heap.size ≤ b) → Tb W2 T' t ns → TS W0 W2 t (.slice Av ns.length cv) ns) := ⟨fun W2 T' hf h1 h2 => (TS.fr hP hTb hPb hTP hB hf h1 h2).1 rfl⟩
    clear hT hP hTb hPb hTP hB
    go_upto_region 12 with (go_at_call 22; refine h22.out.mono ?_; rintro e W6 ⟨rfl, hf6, T6, hT6, ht6⟩; have ts6 := Aside0.mk (hnext.out _ _ hf6 hT6 ht6); have hx6 := Aside0.mk ((hf6.ch.block g (blk_lt hx3.out) hgT).trans hx3.out); clear hf6 hT6 ht6)
    clear e0 e1 e2 h22 hnext hgT ht3 hx3 hB3
    have hA7 := (Below.refl W6.heap.size W6).alloc (Nat.le_refl _) (o56 ((ja : Int) + 1) ((jb : Int) + 1) ((jc : Int) + 1))
    have hn7 := blk_new W6 (o56 ((ja : Int) + 1) ((jb : Int) + 1) ((jc : Int) + 1))
    have hx7 := blk_below hx6.out hA7
    have ht5 := Aside0.mk (ts6.out.below hA7)
    clear ts6 hx6 hA7
    generalize W6.alloc (o56 ((ja : Int) + 1) ((jb : Int) + 1) ((jc : Int) + 1)) = W7 at hn7 hx7 ht5 ⊢
    generalize W6.heap.size = g6 at hn7 ⊢
    have hB5 : Aside0 (Below w.heap.size w W7) := ⟨by
      obtain ⟨_, _, _, _, _, _, _, q⟩ := ht5.out
      exact hB0.out.trans (q.mono hB0.out.size)⟩
    have hcell : Aside0 (∃ bn on, Av = some ⟨bn, on, none⟩ ∧ ∀ j (hj : j < ns.length), W7.cell? ⟨bn, on + j, none⟩ = some (.string (str ns[j]))) := ⟨by
      obtain ⟨T, P, hT, hP, -⟩ := ht5.out
      obtain ⟨A2, c2, e, _, hK⟩ := hP.reads
      cases e
      obtain ⟨bn, on, e, _, _⟩ := kds_at hK (j := ja) (by omega)
      refine ⟨bn, on, e, fun j hj => ?_⟩
      obtain ⟨b2, o2, e2, _, h⟩ := kds_at hK hj
      rw [e] at e2
      cases e2
      exact h⟩
    have nx : ∀ (j : Nat) (q : List UInt8), tword ns (false, (j : Int) + 1) = some q → ∃ hj : j < ns.length, ns[j] = q := fun j q h => by
      obtain ⟨_, _, _, h4⟩ := tword_mem h
      rw [show ((j : Int) + 1 - 1).toNat = j by omega] at h4
      exact List.getElem?_eq_some_iff.1 h4
    obtain ⟨bn, on, rfl, hcl⟩ := hcell.out
    obtain ⟨la, ea⟩ := nx ja x hx
    obtain ⟨lb, eb⟩ := nx jb y hy
    obtain ⟨lc, ec⟩ := nx jc z hz
    have ca := hcl ja la
    have cb := hcl jb lb
    have cc := hcl jc lc
    rw [ea] at ca
    rw [eb] at cb
    rw [ec] at cc
    have sx : (str x).size ≤ 32 := by rw [str_size]; exact hxl
    have sy : (str y).size ≤ 32 := by rw [str_size]; exact hyl
    have sz : (str z).size ≤ 32 := by rw [str_size]; exact hzl
    have hcat : str x ++ ⟨#[32]⟩ ++ str y ++ ⟨#[32]⟩ ++ str z = G := by
      rw [← hG.out]
      apply ByteArray.ext
      simp [str, join]
    clear nx hcl hcell ea eb ec la lb lc hx hy hz hxl hyl hzl hG
    generalize str x = X1 at ca sx hcat
    generalize str y = X2 at cb sy hcat
    generalize str z = X3 at cc sz hcat
    have hne : ∀ W', YReg.Ext W7.drew W' → ∀ p : Addr, p.block < W7.heap.size → W'.cell? p = W7.cell? p := fun W' h p hp => h.of_drew.cell hp
    have s0 : ∀ W', YReg.Ext W7.drew W' → W'.cell? ⟨g, 0, none⟩ = some (.int .i64 ((ja : Int) + 1)) := fun W' h => (hne W' h _ (blk_lt hx7)).trans ((blk_cell hx7 0).trans rfl)
    have s1 : ∀ W', YReg.Ext W7.drew W' → W'.cell? ⟨g, 1, none⟩ = some (.int .i64 ((jb : Int) + 1)) := fun W' h => (hne W' h _ (blk_lt hx7)).trans ((blk_cell hx7 1).trans rfl)
    have s2 : ∀ W', YReg.Ext W7.drew W' → W'.cell? ⟨g, 2, none⟩ = some (.int .i64 ((jc : Int) + 1)) := fun W' h => (hne W' h _ (blk_lt hx7)).trans ((blk_cell hx7 2).trans rfl)
    have s3 : ∀ W', YReg.Ext W7.drew W' → W'.cell? ⟨g6, 0, none⟩ = some (.int .i64 ((ja : Int) + 1)) := fun W' h => (hne W' h _ (blk_lt hn7)).trans ((blk_cell hn7 0).trans rfl)
    have s4 : ∀ W', YReg.Ext W7.drew W' → W'.cell? ⟨g6, 1, none⟩ = some (.int .i64 ((jb : Int) + 1)) := fun W' h => (hne W' h _ (blk_lt hn7)).trans ((blk_cell hn7 1).trans rfl)
    have s5 : ∀ W', YReg.Ext W7.drew W' → W'.cell? ⟨g6, 2, none⟩ = some (.int .i64 ((jc : Int) + 1)) := fun W' h => (hne W' h _ (blk_lt hn7)).trans ((blk_cell hn7 2).trans rfl)
    have lbn : bn < W7.heap.size := World.block_lt_of_cell? _ _ ca
    have s6 : ∀ W', YReg.Ext W7.drew W' → W'.cell? ⟨bn, on + ja, none⟩ = some (.string X1) := fun W' h => (hne W' h _ lbn).trans ca
    have s7 : ∀ W', YReg.Ext W7.drew W' → W'.cell? ⟨bn, on + jb, none⟩ = some (.string X2) := fun W' h => (hne W' h _ lbn).trans cb
    have s8 : ∀ W', YReg.Ext W7.drew W' → W'.cell? ⟨bn, on + jc, none⟩ = some (.string X3) := fun W' h => (hne W' h _ lbn).trans cc
    have i1 := fun W => ix22n (b := bn) (o := on) (n := ns.length) (c := cv) (j := ja) (by omega) W
    have i2 := fun W => ix22n (b := bn) (o := on) (n := ns.length) (c := cv) (j := jb) (by omega) W
    have i3 := fun W => ix22n (b := bn) (o := on) (n := ns.length) (c := cv) (j := jc) (by omega) W
    have w1 := wr0 (k := ja) (by omega)
    have w2 := wr0 (k := jb) (by omega)
    have w3 := wr0 (k := jc) (by omega)
    have w1' := wr0' (k := ja) (by omega)
    have w2' := wr0' (k := jb) (by omega)
    have w3' := wr0' (k := jc) (by omega)
    have k16 : Aside0 (∀ W', YReg.Ext W7.drew W' → Calls Tryz.prog 16 #[.pointer (some ⟨t, 0, none⟩), .slice (some ⟨bn, on, none⟩) ns.length cv] W' fun e W2 => ∃ u, e = .returned u ∧ YReg.Ext W' W2 ∧ u = .bool true) := ⟨fun W' h => by
      obtain ⟨T, P, hT, hP, -⟩ := ht5.out.below h.of_drew
      obtain ⟨A2, c2, e, _, hK⟩ := hP.reads
      cases e
      exact (has_walk hT _ cv hK hcv (by omega)).mono fun e W2 ⟨h1, h2⟩ => ⟨_, h1, h2 ▸ YReg.Ext.refl _, rfl⟩⟩
    have z1 : ¬ 9223372036854775807 < X1.size + 1 := by omega
    have z2 : ¬ 9223372036854775807 < X1.size + 1 + X2.size := by omega
    have z3 : ¬ 9223372036854775807 < X1.size + 1 + X2.size + 1 := by omega
    have z4 : ¬ 9223372036854775807 < X1.size + 1 + X2.size + 1 + X3.size := by omega
    clear hx7 hn7 ca cb cc hne lbn
    go_upto_region 12 with fail
    refine YReg.wp_region_tail 42 none YReg.Ext YReg.Ext YReg.Ext.refl YReg.Ext.trans YReg.Ext.trans (fun _ _ h => h) (by kernel_rfl) (by kernel_rfl) (by kernel_rfl) [(10, .det (.string G)), (8, .det (.slice (some ⟨bn, on, none⟩) ns.length cv)), (4, .det (.pointer (some ⟨g, 0, none⟩))), (11, .det (.int .i64 0)), (12, .det (.pointer (some ⟨g6, 0, none⟩))), (13, .det (.int .i64 0)), (7, .det (.pointer (some ⟨t, 0, none⟩)))] (YReg.base_cons rfl (YReg.base_cons rfl (YReg.base_cons rfl (YReg.base_cons rfl (YReg.base_cons rfl (YReg.base_cons rfl (YReg.base_cons rfl YReg.base_nil))))))) ?_
    simp only [List.take_succ_cons, List.take_zero, List.drop_succ_cons, List.drop_zero]
    repeat (first
      | (refine YReg.walk_calld (by decide) k16.out rfl (by kernel_rfl) rfl _ rfl (by kernel_rfl) (by kernel_rfl) ?_)
      | (refine YReg.run_1 (by decide) YReg.Ext.refl rfl rfl _ rfl (by kernel_rfl) (by kernel_rfl) ?_; apply Exists.intro; refine ⟨fun ρ W hE h1 => ?_, ?_⟩; (go_simp; try rfl))
      | (refine YReg.run_2 (by decide) YReg.Ext.refl rfl rfl rfl _ rfl (by kernel_rfl) (by kernel_rfl) ?_; apply Exists.intro; refine ⟨fun ρ W hE h1 h2 => ?_, ?_⟩; (go_simp; try rfl)))
    intro ρ W5 hE8 hn
    simp only [Act.put, List.setIfInBounds_toArray, List.set_cons_zero, List.set_cons_succ]
    have hb5 := hE8.of_drew
    replace hB5 := Aside0.mk (hB5.out.trans (hb5.mono hB5.out.size))
    replace ht5 := Aside0.mk (ht5.out.below hb5)
    clear hn hE8 s0 s1 s2 s3 s4 s5 s6 s7 s8 i1 i2 i3 w1 w2 w3 w1' w2' w3' k16 z1 z2 z3 z4 hb5
    go_upto_region 14 with fail
    clear hcat sx sy sz a1 b1 c1 ha hb hc
    generalize (some (⟨bn, on, none⟩ : Addr)) = Av at ht5 ⊢
  all_goals
    have hnm := tparse_names hnsn.out s
    obtain ⟨⟨⟨ra, rb, rc⟩, now, code⟩, hres⟩ : ∃ q, tparse ns s = q := ⟨_, rfl⟩
    have hrt : Aside0 (∀ W, RN W (.slice Av ns.length cv) ns → Calls Tryz.prog 23 #[.string X, .slice Av ns.length cv] W (RTPost W ((ra, rb, rc), now, code))) := ⟨fun W q => by
      have := rtparse_walk q (by omega) s (by omega)
      rwa [hres, hX.out] at this⟩
    obtain ⟨T, P, hT, hP, hTb, hPb, hTP, hB⟩ := id ht5.out
    have h22 := tparse_walk hT (fun b q => (hTb b q).2) hnsn.out (by omega) (hE.out.of hB5.out (Nat.le_refl _)) s (by omega)
    rw [hres, hX.out] at h22
    rw [hres] at hnm
    replace h22 := Aside0.mk h22
    have hnext : Aside0 (∀ (W2 : World) (T' : Nat → Prop), Fr W5 W2 T → (∀ b, T' b → T b ∨ W5.heap.size ≤ b) → Tb W2 T' t now → RN W2 (.slice Av ns.length cv) ns ∧ Below W0.heap.size W0 W2) := ⟨fun W2 T' hf h1 h2 => ⟨(TS.fr hP hTb hPb hTP hB hf h1 h2).2.1, (TS.fr hP hTb hPb hTP hB hf h1 h2).2.2.1⟩⟩
    have hnow : now.length ≤ 100 := by have := hnm.2; simp only at this; omega
    clear hT hP hTb hPb hTP hB hres hnm
    go_upto_region 15 with (go_at_call 22; refine h22.out.mono ?_; rintro e W6 ⟨rfl, hf6, T6, hT6, ht6⟩; have hq6 := Aside0.mk (hnext.out _ _ hf6 hT6 ht6); replace ht6 := Aside0.mk ht6; clear hf6 hT6)
    clear h22 hnext ht5 hB5
    have hA7 := (Below.refl W6.heap.size W6).alloc (Nat.le_refl _) (o56 ra rb rc)
    have hn7 := Aside0.mk (blk_new W6 (o56 ra rb rc))
    have hR7 := Aside0.mk (hq6.out.1.below hA7)
    have hT7 := Aside0.mk (ht6.out.below hA7)
    have hB7 := Aside0.mk (hB0.out.trans ((hq6.out.2.trans (hA7.mono hq6.out.2.size)).mono hB0.out.size))
    clear hA7 hq6 ht6
    generalize W6.alloc (o56 ra rb rc) = W7 at hn7 hR7 hT7 hB7 ⊢
    generalize W6.heap.size = g7 at hn7 ⊢
    go_upto_region 16 with (go_at_call 23; refine (hrt.out _ hR7.out).mono ?_; rintro e W8 ⟨u8, rfl, hR8, hb8⟩; obtain ⟨B8, d8, rfl, hd8, hK8⟩ := hR8.reads; replace hb8 := Aside0.mk hb8; replace hK8 := Aside0.mk hK8; clear hR8)
    have hA9 := (Below.refl W8.heap.size W8).alloc (Nat.le_refl _) (o55 ra rb rc)
    have hn9 := Aside0.mk (blk_new W8 (o55 ra rb rc))
    have hb79 := hb8.out.trans (hA9.mono hb8.out.size)
    have hx9 := Aside0.mk (blk_below hn7.out hb79)
    have hB9 := Aside0.mk (hB7.out.trans (hb79.mono hB7.out.size))
    have h16 := Aside0.mk (has_walk (hT7.out.below hb79) B8 d8 (Kd.C_below hK8.out hA9) hd8 (by omega))
    have haw := Aside0.mk (awake_walk _ (hE.out.of hB9.out (Nat.le_refl _)))
    clear hA9 hb79 hn7 hR7 hT7 hB7 hK8 hb8 hrt
    generalize W8.alloc (o55 ra rb rc) = W9 at hn9 hx9 hB9 h16 haw ⊢
    generalize W8.heap.size = g9 at hn9 ⊢
    have p0 := (blk_cell hx9.out 0).trans (show _ = some (Value.int .i64 ra) from rfl)
    have p1 := (blk_cell hx9.out 1).trans (show _ = some (Value.int .i64 rb) from rfl)
    have p2 := (blk_cell hx9.out 2).trans (show _ = some (Value.int .i64 rc) from rfl)
    have q0 := (blk_cell hn9.out 0).trans (show _ = some (Value.int .i64 ra) from rfl)
    have q1 := (blk_cell hn9.out 1).trans (show _ = some (Value.int .i64 rb) from rfl)
    have q2 := (blk_cell hn9.out 2).trans (show _ = some (Value.int .i64 rc) from rfl)
    go_wp2_with (first
      | (go_at_call 16; refine h16.out.mono ?_; rintro e w10 ⟨rfl, rfl⟩)
      | (go_at_call 10; refine haw.out.mono ?_; rintro e w11 ⟨rfl, hb11⟩; replace hb11 := Aside0.mk hb11))
    all_goals
      go_ret
      exact ⟨rfl, hB9.out.trans (hb11.out.mono hB9.out.size)⟩
theorem law_triples' (inp : List (List UInt8)) (A0 : Option Addr) (cap0 : Nat) (a b c : Int) (S : ByteArray) (w : World) (hC : Kd.C Kd.string w A0 inp.length (inp.map str)) (hcap : inp.length ≤ cap0) (hE : Env w) :
    Calls Tryz.prog 7 #[.slice A0 inp.length cap0, .agg #[.int .i64 a, .int .i64 b, .int .i64 c], .string S] w fun e W => e = .returned (.bool true) ∧ Below w.heap.size w W :=
  law_triples inp A0 cap0 a b c S.data.toList w hC hcap hE
end Go.Proofs.YtkbkkceeolclmaaGreatDoor.X
