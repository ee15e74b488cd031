/- The law ConfTexts walked. -/
import Derived.Test.YtmhpogajklihdaaDoorCRParse
import Derived.Test.YtmhpogajklihdaaDoorCLCompares
namespace Go.Proofs.YtmhpogajklihdaaDoor.C
open Go.RowKit Go.Shelf Go.Lib Go.Sort Go.Proofs.YtmhpogajklihdaaDoorW.PrintWords

theorem one_reads {W : World} {x : M} {ux : Value} (hx : IdsAt W ux x.2) (T : TypeId) : Reads (W.alloc (.cells #[.string x.1, ux] T)) (.slice (some ⟨W.heap.size, 0, none⟩) 1 1) [x] := by
  have hA : Gr W (W.alloc (.cells #[.string x.1, ux] T)) := Gr.alloc _ _
  have h := reads_cons (W := W.alloc (.cells #[.string x.1, ux] T)) (b := W.heap.size) (T := T) (l := [(x.1, x.2, ux)]) (blk_new W #[.string x.1, ux] T) (by simp) (fun p hp => by
    simp only [List.mem_cons, List.not_mem_nil, or_false] at hp
    rw [hp]
    exact hx.below hA.below)
  exact h

/-- What stands in memory in the law. -/
structure TW (w W : World) (n : Nat) (x : M) (ux : Value) : Prop where
  b1 : W.heap[n]? = some (.cells #[.string x.1, ux] 24 (0, 0))
  hx : IdsAt W ux x.2
  env : Env W
  low : Below w.heap.size w W
theorem TW.below {w W W' : World} {n : Nat} {x : M} {ux : Value} (h : TW w W n x ux) (hb : Below W.heap.size W W') : TW w W' n x ux :=
  ⟨(hb.block n (blk_lt h.b1)).trans h.b1, h.hx.below hb, h.env.below hb, h.low.trans (hb.mono h.low.size)⟩

theorem text_size {m : M} {s : ByteArray} (h : textM m = (s, 0)) (hl : m.2.length ≤ 20) : s.size ≤ 1000 := by
  obtain ⟨hr, ho, _, e⟩ := words_of h
  have h1 := (right_size hr).2
  have h2 := tailT_len m.2 ho
  rw [e]
  unfold textB
  rw [str_size, List.length_append]
  have : m.1.data.toList.length = m.1.size := rfl
  omega
theorem textM_vals (m : M) : (textM m).2 = 0 ∨ (textM m).2 = 13 ∨ (textM m).2 = 1 := by
  unfold textM
  split
  · split
    · exact .inl rfl
    · exact .inr (.inl rfl)
  · exact .inr (.inr rfl)

section
variable {w : World}

set_option maxHeartbeats 4000000 in
set_option maxRecDepth 100000 in
theorem texts_walk (x : M) {ux : Value} (hx : IdsAt w ux x.2) (hE : Env w) : Calls Tryd.prog 7 #[.agg #[.string x.1, ux]] w fun e w' => e = .returned (.bool true) ∧ Below w.heap.size w w' := by
  have hA : Below w.heap.size w (w.alloc (.cells #[.string x.1, ux] 24)) := (Gr.alloc _ _).below
  have p1 := blk_new w #[.string x.1, ux] 24
  obtain ⟨A, ca, rfl, hA1, hA2⟩ := id hx
  have hW : TW w (w.alloc (.cells #[.string x.1, .slice A x.2.length ca] 24)) w.heap.size x (.slice A x.2.length ca) := ⟨p1, hx.below hA, hE.below hA, hA⟩
  clear hA1 hA2 hx hE p1 hA
  go_enter Tryd.func7, Tryd.ntmps7
  go_upto_region 1 with fail
  generalize (w.alloc (.cells #[.string x.1, .slice A x.2.length ca] 24)) = W at hW ⊢
  generalize w.heap.size = n at hW ⊢
  have d1 := (blk_cell hW.b1 0).trans rfl
  have d2 := (blk_cell hW.b1 1).trans rfl
  have hR := one_reads hW.hx 24
  have hA : Gr W (W.alloc (.cells #[.string x.1, .slice A x.2.length ca] 24)) := Gr.alloc _ _
  have hS := small_walk hR
  replace hW := hW.below hA.below
  clear hA
  cases hsm : smallB [x] with
  | false =>
    rw [hsm] at hS
    replace hS := Aside.mk hS
    replace hW := Aside.mk hW
    go_wp2_with (first | (go_at_call 9; refine hS.out.mono ?_; rintro e w1 ⟨rfl, hG⟩; replace hG := Aside.mk hG) | (go_at_call 10; refine (awake_walk (hW.out.below hG.out.below).env.tab).mono ?_; rintro e w2 ⟨rfl, hb⟩; replace hb := Aside.mk hb))
    go_ret
    have := hW.out.below hG.out.below
    exact ⟨rfl, this.low.trans (hb.out.mono this.low.size)⟩
  | true =>
    rw [hsm] at hS
    have hfew := Aside.mk (small_few hsm)
    have hx20 : x.2.length ≤ 20 ∧ x.1.size ≤ 60 := by
      unfold smallB tiny at hsm
      simp at hsm
      omega
    replace hS := Aside.mk hS
    replace hW := Aside.mk hW
    go_upto_region 3 with (go_at_call 9; refine hS.out.mono ?_; rintro e w1 ⟨rfl, hG⟩; replace hG := Aside.mk hG)
    replace hW := hW.out.below hG.out.below
    clear hG hS d1 d2 hR
    have d1 := (blk_cell hW.b1 0).trans rfl
    have d2 := (blk_cell hW.b1 1).trans rfl
    have hT := text_walk x hW.hx (by omega) (by omega) hW.env.tab
    have hvals := textM_vals x
    generalize hTM : textM x = TM at hT hvals
    obtain ⟨S, c⟩ := TM
    simp only at hvals
    replace hTM := Aside.mk hTM
    replace hT := Aside.mk hT
    replace hW := Aside.mk hW
    go_upto_region 4 with (go_at_call 22; refine hT.out.mono ?_; rintro e w2 ⟨rfl, hb⟩; replace hb := Aside.mk hb)
    replace hW := hW.out.below hb.out
    clear hb hT d1 d2
    have d1 := (blk_cell hW.b1 0).trans rfl
    have d2 := (blk_cell hW.b1 1).trans rfl
    have hR := one_reads hW.hx 24
    have hA : Below w2.heap.size w2 (w2.alloc (.cells #[.string x.1, .slice A x.2.length ca] 24)) := (Gr.alloc _ _).below
    have hF := Aside.mk (ref_walk hR hfew.out)
    replace hW := Aside.mk (hW.below hA)
    clear hA hR
    go_wp2_with fail
    go_at_call 11
    refine hF.out.mono ?_
    rintro e w3 ⟨r, l, rfl, hO, hkey, hb3⟩
    have hlen : l.length = 1 := by have := congrArg List.length hkey; simpa using this
    obtain ⟨g, cap, hrf, hgB, hgl⟩ := owns_form1 hO.1 (by omega)
    rw [hlen] at hrf
    subst hrf
    replace hW := hW.out.below hb3
    obtain ⟨p0, rfl⟩ : ∃ p, l = [p] := by
      match l, hlen with
      | [p], _ => exact ⟨p, rfl⟩
    obtain ⟨k0, k1⟩ : p0.1 = x.1 ∧ p0.2.1 = x.2 := by
      simp only [List.map_cons, List.map_nil, List.cons.injEq, and_true] at hkey
      exact ⟨congrArg Prod.fst hkey, congrArg Prod.snd hkey⟩
    have i0 := (hO.2 p0 (by simp)).at_
    rw [k1] at i0
    have e0 := hO.1.cellAt 0 (by decide)
    have e1 := hO.1.cellAt 1 (by decide)
    rw [show (cellsP [p0])[0]? = some (.string x.1) by rw [← k0]; rfl] at e0
    rw [show (cellsP [p0])[1]? = some p0.2.2 from rfl] at e1
    obtain ⟨U0, V0, eu, _, _⟩ := id i0
    rw [eu] at i0 e1
    have hT := rtext_walk x i0 (by omega) (by omega)
    rw [hTM.out] at hT
    replace hT := Aside.mk hT
    replace hW := Aside.mk hW
    clear eu k0 k1 hO hkey hlen hgB hgl hb3 hF i0 d1 d2
    go_upto_region 5 with (go_at_call 23; refine hT.out.mono ?_; rintro e w4 ⟨rfl, hb⟩; replace hb := Aside.mk hb)
    replace hW := Aside.mk (hW.out.below hb.out)
    clear hb hT e0 e1
    rcases hvals with rfl | rfl | rfl
    · have hTM' := hTM.out
      have hP := parse_walk S (text_size hTM.out hx20.1) hW.out.env
      unfold ParsePost at hP
      replace hP := Aside.mk hP
      clear hTM'
      go_wp2_with fail
      go_at_call 24
      refine hP.out.mono ?_
      rintro e w5 ⟨hb5, ⟨m, u, hm, rfl, hi⟩ | ⟨hno, _⟩⟩
      · obtain rfl := text_inj hm hTM.out
        replace hW := hW.out.below hb5
        obtain ⟨U1, V1, rfl, _, _⟩ := id hi
        have hA : Below w5.heap.size w5 (w5.alloc (.cells #[.string m.1, .slice U1 m.2.length V1] 24)) := (Gr.alloc _ _).below
        have q1 := blk_new w5 #[.string m.1, .slice U1 m.2.length V1] 24
        replace hW := hW.below hA
        replace hi := hi.below hA
        have d1 := (blk_cell hW.b1 0).trans rfl
        have d2 := (blk_cell hW.b1 1).trans rfl
        have d3 := (blk_cell q1 0).trans rfl
        have d4 := (blk_cell q1 1).trans rfl
        have hC := compare_walk m m hi hW.hx
        rw [cmpM_self] at hC
        replace hC := Aside.mk hC
        replace hW := Aside.mk hW
        clear hA q1 hb5 hi hP hm
        go_wp2_with fail
        go_at_call 13
        refine hC.out.mono ?_
        rintro e w6 ⟨rfl, hG⟩
        replace hW := Aside.mk (hW.out.below hG.below)
        clear hG hC d1 d2 d3 d4
        go_wp2_with (go_at_call 10; refine (awake_walk hW.out.env.tab).mono ?_; rintro e w7 ⟨rfl, hb⟩; replace hb := Aside.mk hb)
        go_ret
        exact ⟨rfl, hW.out.low.trans (hb.out.mono hW.out.low.size)⟩
      · exact absurd hTM.out (hno x)
    · go_wp2_with (go_at_call 10; refine (awake_walk hW.out.env.tab).mono ?_; rintro e w7 ⟨rfl, hb⟩; replace hb := Aside.mk hb)
      go_ret
      exact ⟨rfl, hW.out.low.trans (hb.out.mono hW.out.low.size)⟩
    · go_wp2_with (go_at_call 10; refine (awake_walk hW.out.env.tab).mono ?_; rintro e w7 ⟨rfl, hb⟩; replace hb := Aside.mk hb)
      go_ret
      exact ⟨rfl, hW.out.low.trans (hb.out.mono hW.out.low.size)⟩
end
end Go.Proofs.YtmhpogajklihdaaDoor.C
