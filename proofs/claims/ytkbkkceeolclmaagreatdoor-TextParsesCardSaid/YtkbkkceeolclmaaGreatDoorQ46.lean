/- The law TextParses. From a row's listed variables, and a world's shape, to what the walks ask. How names and rules that came in lie. -/
import Derived.Test.YtkbkkceeolclmaaGreatDoorRows
import Derived.HandedShaped
import Derived.MakeChecks
import Derived.Stop.LaidErr
import Derived.Stop.Joined
import Derived.Shelf.Vars
import Derived.LaidMore
import Derived.LaidHandle
import Derived.ProofKit
import Derived.WalkKit
import Derived.Deep.Slices
import Derived.WideShapes
import Derived.Laws.LoneSync
import Derived.OpenShut
import Derived.Lib.SmallJoins
import Derived.Test.YtkbkkceeolclmaaGreatDoorQ41
import Derived.Test.YtkbkkceeolclmaaGreatDoorQ45
import Derived.Test.YtkbkkceeolclmaaGreatDoorQ37
import Derived.Test.YtkbkkceeolclmaaGreatDoorQ18
import Derived.Test.YtkbkkceeolclmaaGreatDoorQ15
import Derived.Test.YtkbkkceeolclmaaGreatDoorQ10
import Derived.Test.YtkbkkceeolclmaaGreatDoorQ13
set_option linter.unusedVariables false
set_option linter.unusedSimpArgs false
namespace Go.TX
/-- What is refused leaves nothing. -/
theorem rparse_bad {ns : List (List UInt8)} {s : List UInt8} (h : (rparse ns s).2.2 ≠ 0) : (rparse ns s).1 = ([], []) ∧ (rparse ns s).2.1 = ns := by
  unfold rparse at h ⊢
  split
  · exact ⟨rfl, rfl⟩
  · rename_i nm l _
    cases hp : pconds (l.length + 1) false l ns with
    | none => exact ⟨rfl, rfl⟩
    | some p =>
      obtain ⟨n1, out, r⟩ := p
      rename_i hw
      rw [hw] at h
      simp only [hp] at h ⊢
      split
      · exact ⟨rfl, rfl⟩
      · rename_i h1
        rw [if_neg h1] at h
        split
        · exact ⟨rfl, rfl⟩
        · rename_i h2
          rw [if_neg h2] at h
          split
          · exact ⟨rfl, rfl⟩
          · rename_i h3
            rw [if_neg h3] at h
            exact absurd rfl h
theorem rparse_size (ns : List (List UInt8)) (s : List UInt8) : csizeL (rparse ns s).1.2 ≤ s.length + 1 ∧ (rparse ns s).1.1.length ≤ s.length := by
  have hb := words_bound s
  unfold rparse
  split
  · simp [csizeL]
  · rename_i nm l hw
    rw [hw] at hb
    cases hp : pconds (l.length + 1) false l ns with
    | none => simp [csizeL]
    | some p =>
      obtain ⟨n1, out, r⟩ := p
      have h1 := pconds_size _ _ _ _ _ _ _ hp
      have h2 := hb.2 nm (by simp)
      have h3 := hb.1
      simp only [List.length_cons] at h3
      simp only
      split
      · simp [csizeL]
      · split
        · simp [csizeL]
        · split
          · simp [csizeL]
          · exact ⟨show csizeL out ≤ _ by omega, h2⟩
theorem rparse_names {ns : List (List UInt8)} (hN : Names ns) (hl : ns.length ≤ 4096) (s : List UInt8) : Names (rparse ns s).2.1 ∧ (rparse ns s).2.1.length ≤ 4096 := by
  by_cases h : (rparse ns s).2.2 = 0
  · have e : rparse ns s = (((rparse ns s).1.1, (rparse ns s).1.2), (rparse ns s).2.1, 0) := by rw [← h]
    obtain ⟨_, h2, _, _, h5⟩ := rtext_rparse s _ _ e
    exact ⟨h2 hN, h5⟩
  · rw [(rparse_bad h).2]
    exact ⟨hN, hl⟩
end Go.TX
namespace Go.Proofs.YtkbkkceeolclmaaGreatDoor.X
open Go.RowKit Go.TX Go.Proofs.YtkbkkceeolclmaaGreatDoorW.PrintWords Go.Proofs.YtkbkkceeolclmaaGreatDoorL
attribute [local go_sem] YReg.envOf
set_option maxRecDepth 100000 in
set_option maxHeartbeats 8000000 in
theorem law_parses (inp : List (List UInt8)) (A0 : Option Addr) (cap0 : Nat) (s : List UInt8) (w : World) (hC : Kd.C Kd.string w A0 inp.length (inp.map str)) (hcap : inp.length ≤ cap0) (hE : Env w) :
    Calls Tryz.prog 4 #[.slice A0 inp.length cap0, .string (str s)] w fun e W => e = .returned (.bool true) ∧ Below w.heap.size w W := by
  have htab := Aside0.mk (table_walk inp A0 cap0 w hC hcap)
  have hnsl := Aside0.mk (tabN_len inp)
  have hnsn := Aside0.mk (tabN_names inp)
  generalize tabN inp = ns at htab hnsl hnsn
  replace hE := Aside0.mk hE
  clear hC
  go_enter Tryz.func4, Tryz.ntmps4
  go_upto_region 2 with (go_at_call 8; refine htab.out.mono ?_; rintro e W1 (⟨hok, t, v, rfl, hts⟩ | ⟨hno, rfl, hb1⟩))
  rotate_left
  · have haw := Aside0.mk (awake_walk W1 (hE.out.of hb1 (Nat.le_refl _)))
    replace hb1 := Aside0.mk hb1
    clear hno
    go_wp2_with (go_at_call 10; refine haw.out.mono ?_; rintro e w2 ⟨rfl, hb2⟩; replace hb2 := Aside0.mk hb2)
    go_ret
    exact ⟨rfl, hb1.out.trans (hb2.out.mono hb1.out.size)⟩
  obtain ⟨T, P, hT, hP, hTb, hPb, hTP, hb1⟩ := hts
  obtain ⟨Av, cv, rfl, hcv, -⟩ := hP.reads
  have hnl : ns.length ≤ 40 := by have := hnsl.out; have := hok.1; omega
  replace hT := Aside0.mk hT
  replace hP := Aside0.mk hP
  replace hTb := Aside0.mk hTb
  replace hPb := Aside0.mk hPb
  replace hTP := Aside0.mk hTP
  replace hb1 := Aside0.mk hb1
  clear hok
  by_cases h600 : 600 < s.length
  · have hsz : decide ((600 : Int) < ((str s).size : Int)) = true := decide_eq_true (by rw [str_size]; omega)
    have haw := Aside0.mk (awake_walk W1 (hE.out.of hb1.out (Nat.le_refl _)))
    generalize str s = S at hsz
    go_wp2_with (go_at_call 10; refine haw.out.mono ?_; rintro e w2 ⟨rfl, hb2⟩; replace hb2 := Aside0.mk hb2)
    go_ret
    exact ⟨rfl, hb1.out.trans (hb2.out.mono hb1.out.size)⟩
  have hsz : decide ((600 : Int) < ((str s).size : Int)) = false := decide_eq_false (by rw [str_size]; omega)
  have hpw := parse_walk hT.out (fun b q => (hTb.out b q).2) hnsn.out (by omega) (hE.out.of hb1.out (Nat.le_refl _)) s (by omega)
  have hsizes := rparse_size ns s
  have hnames := Aside0.mk (rparse_names hnsn.out (by omega) s)
  have hback := Aside0.mk (fun nm l n1 (q : rparse ns s = ((nm, l), n1, 0)) => rtext_rparse s nm l q)
  obtain ⟨⟨⟨nm, l⟩, now, code⟩, hres⟩ : ∃ q, rparse ns s = q := ⟨_, rfl⟩
  have hrp := Aside0.mk (fun W (q : RN W (.slice Av ns.length cv) ns) => rpparse_walk q (by omega) s (by omega))
  rw [hres] at hpw hsizes hnames hback hrp
  simp only at hsizes hnames
  clear hres
  replace hpw := Aside0.mk hpw
  obtain ⟨X, hX⟩ : ∃ X, str s = X := ⟨_, rfl⟩
  rw [hX] at hsz hpw hrp ⊢
  replace hX := Aside0.mk hX
  go_upto_region 5 with (go_at_call 14; refine hpw.out.mono ?_; rintro e W6 ⟨V6, rfl, hfr6, ⟨T6, hT6, htb6⟩, hbx6⟩; obtain ⟨A6, c6, rfl, hrd6⟩ := hbx6.reads; replace hfr6 := Aside0.mk hfr6; replace htb6 := Aside0.mk htb6; replace hrd6 := Aside0.mk hrd6; clear hbx6)
  have hFw := hfr6.out.below (B := w.heap.size) hb1.out.size (fun b q => (hTb.out b q).1)
  have hB6 : Below w.heap.size w W6 := hb1.out.trans hFw
  have hA7 := (Below.refl W6.heap.size W6).alloc (Nat.le_refl _) (.cells #[.string (str nm), .slice A6 l.length c6] 25)
  have hn7 := Aside0.mk (blk_new W6 (.cells #[.string (str nm), .slice A6 l.length c6] 25))
  have hB7 := Aside0.mk (hB6.trans (hA7.mono hB6.size))
  have hT7 := Aside0.mk (htb6.out.below hA7)
  have hP6 : DN w.heap.size P W6 (.slice Av ns.length cv) ns := hP.out.step fun b q hl => hfr6.out.ch.block b hl (fun q2 => hTP.out b q2 q)
  have hR7 := Aside0.mk ((RN.of hP6).below hA7)
  have hr7 := Aside0.mk (hrd6.out.below hA7)
  clear hFw hB6 hP6 hpw hfr6 htb6 hrd6 hT hP hTb hPb hTP hb1 htab hA7
  go_upto_region 5 with fail
  generalize W6.alloc (.cells #[.string (str nm), .slice A6 l.length c6] 25) = W7 at hn7 hB7 hT7 hR7 hr7 ⊢
  generalize W6.heap.size = g7 at hn7 ⊢
  go_upto_region 6 with (go_at_call 17; refine (hrp.out _ hR7.out).mono ?_; rintro e W8 ⟨S8, u8, rfl, hS8, hu8, hb8⟩; obtain ⟨A8, c8, rfl, hs8⟩ := hS8.reads; obtain ⟨B8, d8, rfl, hd8, hK8⟩ := hu8.reads; replace hs8 := Aside0.mk hs8; replace hK8 := Aside0.mk hK8; replace hb8 := Aside0.mk hb8; clear hS8 hu8)
  have hA9 := (Below.refl W8.heap.size W8).alloc (Nat.le_refl _) (.cells #[.string (str nm), .slice A8 l.length c8] 38)
  have hn9 := Aside0.mk (blk_new W8 (.cells #[.string (str nm), .slice A8 l.length c8] 38))
  have hb79 := hb8.out.trans (hA9.mono hb8.out.size)
  have hB9 := Aside0.mk (hB7.out.trans (hb79.mono hB7.out.size))
  have hx9 := Aside0.mk (blk_below hn7.out hb79)
  have hT9 := Aside0.mk (hT7.out.below hb79)
  have hr9 := Aside0.mk (hr7.out.below hb79)
  have hs9 := Aside0.mk (hs8.out.below hA9)
  have hK9 := Aside0.mk (Kd.C_below hK8.out hA9)
  clear hb79 hA9 hb8 hn7 hB7 hT7 hR7 hr7 hs8 hK8 hrp
  go_upto_region 6 with fail
  generalize W8.alloc (.cells #[.string (str nm), .slice A8 l.length c8] 38) = W9 at hn9 hB9 hx9 hT9 hr9 hs9 hK9 ⊢
  generalize W8.heap.size = g9 at hn9 ⊢
  obtain ⟨hsl, hsn⟩ := hsizes
  have hnow := hnames.out.2
  have k13 : Aside0 (∀ W', YReg.Ext W9.drew W' → Calls Tryz.prog 13 #[.agg #[.string (str nm), .slice A6 l.length c6]] W' fun e W2 => ∃ u, e = .returned u ∧ YReg.Ext W' W2 ∧ IsRl nm l u W2) := ⟨fun W' h => (ref13 (csizeL l + 1) (str nm) l A6 c6 W' _ (Nat.lt_succ_self _) (by omega) (hr9.out.below h.of_drew)).mono fun e W2 ⟨S, h1, h2, h3⟩ => ⟨_, h1, h2, S, _, rfl, h3⟩⟩
  have k15 : Aside0 (∀ u1 W', YReg.Ext W9.drew W' → IsRl nm l u1 W' → Calls Tryz.prog 15 #[u1, .agg #[.string (str nm), .slice A8 l.length c8]] W' fun e W2 => ∃ u, e = .returned u ∧ YReg.Ext W' W2 ∧ u = .bool true) := ⟨fun u1 W' h ⟨S1, n1, q1, r1⟩ => by
    obtain ⟨B1, d1, rfl, t1⟩ := r1.reads
    subst q1
    exact (same15 nm l B1 d1 A8 c8 W' _ _ (by omega) t1 (hs9.out.below h.of_drew)).mono fun e W2 ⟨h1, h2⟩ => ⟨_, h1, h2, rfl⟩⟩
  have k16 : Aside0 (∀ W', YReg.Ext W9.drew W' → Calls Tryz.prog 16 #[.pointer (some ⟨t, 0, none⟩), .slice B8 now.length d8] W' fun e W2 => ∃ u, e = .returned u ∧ YReg.Ext W' W2 ∧ u = .bool true) := ⟨fun W' h => (has_walk (hT9.out.below h.of_drew) B8 d8 (Kd.C_below hK9.out h.of_drew) hd8 (by omega)).mono fun e W2 ⟨h1, h2⟩ => ⟨_, h1, h2 ▸ YReg.Ext.refl _, rfl⟩⟩
  have s0 : ∀ W', YReg.Ext W9.drew W' → W'.cell? ⟨g7, 0, none⟩ = some (.string (str nm)) := fun W' h => (blk_cell (blk_below hx9.out h.of_drew) 0).trans rfl
  have s1 : ∀ W', YReg.Ext W9.drew W' → W'.cell? ⟨g7, 1, none⟩ = some (.slice A6 l.length c6) := fun W' h => (blk_cell (blk_below hx9.out h.of_drew) 1).trans rfl
  have s2 : ∀ W', YReg.Ext W9.drew W' → W'.cell? ⟨g9, 0, none⟩ = some (.string (str nm)) := fun W' h => (blk_cell (blk_below hn9.out h.of_drew) 0).trans rfl
  have s3 : ∀ W', YReg.Ext W9.drew W' → W'.cell? ⟨g9, 1, none⟩ = some (.slice A8 l.length c8) := fun W' h => (blk_cell (blk_below hn9.out h.of_drew) 1).trans rfl
  refine YReg.wp_region_tail 15 none YReg.Ext YReg.Ext YReg.Ext.refl YReg.Ext.trans YReg.Ext.trans (fun _ _ h => h) (by kernel_rfl) (by kernel_rfl) (by kernel_rfl) [(9, .det (.int .i64 code)), (12, .det (.int .i64 code)), (8, .det (.pointer (some ⟨g7, 0, none⟩))), (10, .det (.pointer (some ⟨g9, 0, none⟩))), (5, .det (.pointer (some ⟨t, 0, none⟩))), (11, .det (.slice B8 now.length d8))] (YReg.base_cons rfl (YReg.base_cons rfl (YReg.base_cons rfl (YReg.base_cons rfl (YReg.base_cons rfl (YReg.base_cons rfl YReg.base_nil)))))) ?_
  simp only [List.take_succ_cons, List.take_zero, List.drop_succ_cons, List.drop_zero]
  repeat (first
    | (refine YReg.walk_calln (by decide) IsRl.up k13.out rfl (by kernel_rfl) rfl _ rfl (by kernel_rfl) (by kernel_rfl) ?_)
    | (refine YReg.walk_calld1 (by decide) k15.out rfl (by kernel_rfl) rfl rfl _ rfl (by kernel_rfl) (by kernel_rfl) ?_)
    | (refine YReg.walk_calld (by decide) k16.out rfl (by kernel_rfl) rfl _ rfl (by kernel_rfl) (by kernel_rfl) ?_)
    | (refine YReg.run_1 (by decide) YReg.Ext.refl rfl rfl _ rfl (by kernel_rfl) (by kernel_rfl) ?_; apply Exists.intro; refine ⟨fun ρ W hE h1 => ?_, ?_⟩; (go_simp; try rfl))
    | (refine YReg.run_2 (by decide) YReg.Ext.refl rfl rfl rfl _ rfl (by kernel_rfl) (by kernel_rfl) ?_; apply Exists.intro; refine ⟨fun ρ W hE h1 h2 => ?_, ?_⟩; (go_simp; try rfl)))
  intro ρ W8 hE8 hn
  simp only [Act.put, List.setIfInBounds_toArray, List.set_cons_zero, List.set_cons_succ]
  have hb8 := hE8.of_drew
  have hB8 := Aside0.mk (hB9.out.trans (hb8.mono hB9.out.size))
  have hx8 := blk_below hx9.out hb8
  have hT8 := hT9.out.below hb8
  have hr8 := hr9.out.below hb8
  clear hn hE8 s0 s1 s2 s3 k13 k15 k16 hn9 hB9 hx9 hT9 hr9 hs9 hK9 hb8
  generalize ρ 47 = x47
  have hE8 := hE.out.of hB8.out (Nat.le_refl _)
  by_cases hc : code = 0
  · subst hc
    have hq := hback.out nm l now rfl
    have hrt := rtext_walk (names_short hnames.out.1) (by omega) nm (by omega) l A6 c6 W8 _ (by omega) hr8 hT8 hE8
    rw [hq.1, hX.out] at hrt
    simp only at hrt
    replace hrt := Aside0.mk hrt
    replace hE8 := Aside0.mk hE8
    have x0 := (blk_cell hx8 0).trans (show _ = some (Value.string (str nm)) from rfl)
    have x1 := (blk_cell hx8 1).trans (show _ = some (Value.slice A6 l.length c6) from rfl)
    clear hx8 hT8 hr8 hq hback
    go_wp2_with (first
      | (go_at_call 11; refine hrt.out.mono ?_; rintro e w9 ⟨rfl, hb9⟩; have haw := Aside0.mk (awake_walk w9 (hE8.out.below hb9)); replace hb9 := Aside0.mk hb9)
      | (go_at_call 10; refine haw.out.mono ?_; rintro e w10 ⟨rfl, hb10⟩; replace hb10 := Aside0.mk hb10))
    go_ret
    exact ⟨rfl, (hB8.out.trans (hb9.out.mono hB8.out.size)).trans (hb10.out.mono (Nat.le_trans hB8.out.size hb9.out.size))⟩
  · have hne : (code != 0) = true := bne_iff_ne.2 hc
    have haw := Aside0.mk (awake_walk W8 hE8)
    replace hc := Aside0.mk hc
    clear hx8 hT8 hr8 hback hE8
    go_wp2_with (go_at_call 10; refine haw.out.mono ?_; rintro e w10 ⟨rfl, hb10⟩; replace hb10 := Aside0.mk hb10)
    go_ret
    exact ⟨rfl, hB8.out.trans (hb10.out.mono hB8.out.size)⟩
theorem law_parses' (inp : List (List UInt8)) (A0 : Option Addr) (cap0 : Nat) (S : ByteArray) (w : World) (hC : Kd.C Kd.string w A0 inp.length (inp.map str)) (hcap : inp.length ≤ cap0) (hE : Env w) :
    Calls Tryz.prog 4 #[.slice A0 inp.length cap0, .string S] w fun e W => e = .returned (.bool true) ∧ Below w.heap.size w W :=
  law_parses inp A0 cap0 S.data.toList w hC hcap hE
end Go.Proofs.YtkbkkceeolclmaaGreatDoor.X
namespace Go.Proofs.YtkbkkceeolclmaaGreatDoor.X
open Go.RowKit Go.Lib
/-- The builder of the kit, the world's shape kept. -/
theorem returns_shaped {H : Type} {enc : TypeId × Value → H} {a : Assume} {C : Checked} {os : Os} {f : FuncId} {fn : Func} {s : ChangeSpec} {conds : List PathCond} {apart fresh handsOn again : Bool} {X : World → Array Value → Prop}
    (hX : ∀ (w w' : World) (args : Array Value), w.heap = w'.heap → X w args → X w' args)
    (own : ownKnob C.prog.godebug = none) (started : os.Started) (noInit : C.prog.inits.idxOf? f = none) (hfn : C.prog.funcs[f]? = some fn)
    (witness : ∃ (w : World) (tape : Tape) (i : Input), w.os = os ∧ (w.forCall tape i).Shaped C.prog ∧ i.vars = [] ∧ Input.okWide C.prog (w.forCall tape i) .any w.heap.size f i ∧
      ((s.pre enc C.prog fn conds apart (w.forCall tape i).memory i.args ∧ X (w.forCall tape i).memory i.args) ∧ sizedMet enc C.prog fn (OpenSpec.ofChange s) apart (w.forCall tape i).memory i.args) ∧ a.holds C.prog (lone (Frame.enter C.prog f i.args .normal) [] (w.forCall tape i)))
    (contract : ∀ (W : World) (base : Nat) (args : Array Value) (ds gs : List (DataW H)) (before : List MemPlace),
      (∀ (j : Nat) t v, fn.params[j]? = some t → args[j]? = some v → Value.okWide C.prog W .any base t v) →
      DataW.Whole enc C.prog fn.params.toList s.vars apart W args.toList ds gs before → X W args → W.ShapedOpen C.prog →
      Calls C.prog f args W fun e W' => ∃ v, e = .returned v ∧ s.post enc C.prog fn apart fresh handsOn again W args v W') :
    ReturnsInHanded a C os f .any (fun w args => (s.pre enc C.prog fn conds apart w args ∧ X w args) ∧ sizedMet enc C.prog fn (OpenSpec.ofChange s) apart w args) (s.post enc C.prog fn apart fresh handsOn again) := by
  refine returnsInHanded_of_calls own started noInit witness ?_
  intro w tape i _ hsh _ hok hpre _
  obtain ⟨_, _, _, fn', hfn', _, _, _, _, hval⟩ := hok
  have e : fn' = fn := Option.some.inj (hfn'.symm.trans hfn)
  subst e
  obtain ⟨⟨⟨ds, gs, before, hw, _⟩, hx⟩, _⟩ := hpre
  have hw' := DataW.Whole.of_heap (w' := w.forCall tape i) (by rfl) hw
  refine (contract (w.forCall tape i) w.heap.size i.args ds gs before hval hw' (hX _ _ _ (by rfl) hx) hsh).mono fun e W' ⟨v, he, hp⟩ => ?_
  subst he
  exact ChangeSpec.post_blind hp
theorem env_of {W : World} (hL : laidMetH Tryz.prog Rows.textRulesRow.laid W) (hS : W.ShapedOpen Tryz.prog) : Env W := by
  have h : laidMet Tryz.prog Rows.textRulesRow.laid W := by rw [← MakeChecks.laidMetH_plain _ _ _ (by kernel_rfl)]; exact hL
  have h2 : laidMet Tryz.prog (("internal/strconv.uint64pow10", tabData .u64 pow10Tab) :: _) W := h.tail.tail
  refine ⟨tabIs_of_head (g := 1) (by kernel_rfl) (t := 195) (e := 179) (n := 20) (by kernel_rfl) (by kernel_rfl) (by kernel_rfl) (by kernel_rfl) (by kernel_rfl) h2, ?_⟩
  exact Go.Proofs.cell_of_shapedOpen_int (zero := #[.int .i64 0]) (t := 3) hS (of_decide_eq_true (by kernel_rfl)) (by kernel_rfl) rfl (by kernel_rfl) (by kernel_rfl) Tryz.underlying3
/-- The cells of a table. -/
def cellsIn (d : DataW Unit) : Array Value := match d with
  | .agg l => (l.map fun x => match x with
    | .lit (.int k z) => Value.int k z
    | _ => undef).toArray
  | _ => #[]
/-- A start: what the door's run leaves, and the pinned table. -/
noncomputable def start (os : Os) : World :=
  { World.doorLaid Tryz.prog 3000 os with heap := (World.doorLaid Tryz.prog 3000 os).heap.setIfInBounds 2 (.cells (cellsIn Rows.laid_unicode_utf8_first) 200 (0, 0)) }
theorem start_met (os : Os) (args : Array Value) : laidMetH Tryz.prog Rows.textRulesRow.laid ((start os).forCall (fun _ _ => 0) ⟨#[], args, []⟩).memory :=
  laidMetH_of_parts3 (fuel := 8) (laidMet_of_run' 8 (by kernel_rfl) (by kernel_rfl)) (by kernel_rfl) (by kernel_rfl)
theorem start_shaped (os : Os) (args : Array Value) : ((start os).forCall (fun _ _ => 0) ⟨#[], args, []⟩).Shaped Tryz.prog := World.shaped_of_RefB (by kernel_rfl) (by kernel_rfl)
end Go.Proofs.YtkbkkceeolclmaaGreatDoor.X
namespace Go.Proofs.YtkbkkceeolclmaaGreatDoor.X
open Go.RowKit Go.Deep Go.Lib Go.TX Go.Proofs.YtkbkkceeolclmaaGreatDoorW.PrintWords
theorem add_add (a : Addr) (m n : Nat) : (a.add m).add n = a.add (m + n) := by
  unfold Addr.add
  by_cases hm : m = 0
  · subst hm; simp
  · by_cases hn : n = 0
    · subst hn; simp [hm]
    · simp [hm, hn, Nat.add_assoc]
/-- The elements of a slice that came in. -/
theorem open_row {α H : Type} {enc : TypeId × Value → H} {P : Program} {W : World} {base : Nat} {sp : Nat → Bool} {held : Bool} {t e : TypeId} {a : Option Addr} {len cap : Nat} {d : DataW H} {ps : List MemPlace} {size : Nat}
    (R : α → List Value → Prop) (ht : P.underlying t = some (.slice e)) (hc : P.cellsOf e = size) (hdec : ∀ fuel cs y, DataW.trod enc P W base sp held fuel e cs = some y → ∃ x, R x cs)
    (h : DataW.Trod enc P W base sp held t (.slice a len cap) d ps) : ∃ xs : List α, ReadsRow R size W a len xs ∧ len ≤ cap := by
  obtain ⟨fuel, hf⟩ := h
  rcases open_slice ht hf with ⟨hcs, _⟩ | ⟨x, l, c, m, n, D, Pl, hcs, _, hl, hm, hmm, _, hel⟩
  · simp [Value.cells] at hcs
    obtain ⟨rfl, rfl, rfl⟩ := hcs
    exact ⟨[], ⟨rfl, Nat.zero_le _, fun h => absurd h (Nat.lt_irrefl 0)⟩, Nat.le_refl _⟩
  · simp [Value.cells] at hcs
    obtain ⟨rfl, rfl, rfl⟩ := hcs
    have hle : len ≤ m := by rw [hmm]; split <;> omega
    have hg : ∀ i : Nat, ∃ q : Option (α × List Value), i < len → ∃ z cs, q = some (z, cs) ∧ R z cs ∧ W.cells? base (x.add (i * P.cellsOf e)) (P.cellsOf e) = some cs := by
      intro i
      by_cases hi : i < len
      · obtain ⟨cs', h1, h2⟩ := hel i (by omega)
        obtain ⟨z, hz⟩ := hdec _ _ _ h2
        exact ⟨some (z, cs'), fun _ => ⟨z, cs', rfl, hz, h1⟩⟩
      · exact ⟨none, fun h => absurd h hi⟩
    obtain ⟨f, hfn⟩ : ∃ f : Nat → Option (α × List Value), ∀ i, i < len → ∃ z cs, f i = some (z, cs) ∧ R z cs ∧ W.cells? base (x.add (i * P.cellsOf e)) (P.cellsOf e) = some cs := ⟨fun i => (hg i).choose, fun i => (hg i).choose_spec⟩
    have hmap : ∀ n, n ≤ len → ∃ xs : List α, xs.length = n ∧ ∀ j p, xs[j]? = some p → j < n ∧ ∃ cs, f j = some (p, cs) := by
      intro n
      induction n with
      | zero => exact fun _ => ⟨[], rfl, fun j p h => by simp at h⟩
      | succ n ih =>
        intro hn
        obtain ⟨xs, hx, hp⟩ := ih (by omega)
        obtain ⟨z, cs, hz, _⟩ := hfn n (by omega)
        refine ⟨xs ++ [z], by simp [hx], fun j p hj => ?_⟩
        by_cases hjn : j < n
        · rw [List.getElem?_append_left (by omega)] at hj
          exact ⟨by omega, (hp j p hj).2⟩
        · have hj2 := (List.getElem?_eq_some_iff.1 hj).1
          simp [hx] at hj2
          obtain rfl : j = n := by omega
          rw [List.getElem?_append_right (by omega), hx, Nat.sub_self] at hj
          simp at hj
          subst hj
          exact ⟨by omega, cs, hz⟩
    obtain ⟨xs, hx, hp⟩ := hmap len (Nat.le_refl _)
    refine ⟨xs, ⟨hx, by unfold maxLen at hm; omega, fun _ => ⟨x, rfl, fun j p hj => ?_⟩⟩, hl⟩
    obtain ⟨hjl, cs, hfj⟩ := hp j p hj
    obtain ⟨z, cs2, h1, h2, h3⟩ := hfn j hjl
    rw [hfj] at h1
    cases h1
    obtain ⟨_, hcl, hcell⟩ := World.cells?_some h3
    rw [hc] at hcl hcell
    refine ⟨cs, hcl, h2, fun i u hu => ?_⟩
    have hi : i < size := by rw [← hcl]; exact (List.getElem?_eq_some_iff.1 hu).1
    rw [← add_add, hcell i hi, hu]
section
variable {H : Type} {enc : TypeId × Value → H} {W : World} {base : Nat} {sp : Nat → Bool} {held : Bool}
set_option maxRecDepth 100000 in
theorem open_names {A : Option Addr} {n cap : Nat} {d : DataW H} {ps : List MemPlace} (h : DataW.Trod enc Tryz.prog W base sp held 22 (.slice A n cap) d ps) : ∃ inp : List (List UInt8), n = inp.length ∧ inp.length ≤ cap ∧ Kd.C Kd.string W A inp.length (inp.map str) := by
  obtain ⟨xs, hr, hcap⟩ := open_row (size := 1) (fun (x : ByteArray) cs => cs = [Value.string x]) Tryz.underlying22 (by kernel_rfl) (fun fuel cs y h => by
    obtain ⟨s, e, _⟩ := DataW.trod_string Tryz.underlying9 h
    exact ⟨s, e⟩) h
  have hm : (xs.map (·.data.toList)).map str = xs := by rw [List.map_map]; exact (List.map_congr_left (fun x _ => by simp)).trans (List.map_id _)
  have hl := hr.1
  refine ⟨xs.map (·.data.toList), by rw [List.length_map]; exact hl.symm, by rw [List.length_map, hl]; exact hcap, ?_⟩
  rw [hm, List.length_map, hl]
  exact hr
end
end Go.Proofs.YtkbkkceeolclmaaGreatDoor.X
