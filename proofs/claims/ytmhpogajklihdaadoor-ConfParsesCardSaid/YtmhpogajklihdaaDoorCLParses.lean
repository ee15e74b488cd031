/- The law ConfParses walked. -/
import Derived.Test.YtmhpogajklihdaaDoorCLTexts
namespace Go.Proofs.YtmhpogajklihdaaDoor.C
open Go.RowKit Go.Shelf Go.Lib Go.Sort Go.Proofs.YtmhpogajklihdaaDoorW.PrintWords

section
variable {w : World}

theorem few_one {m : M} {s : ByteArray} (h : textM m = (s, 0)) (hs : s.size ≤ 200) : Few [m] ∧ m.2.length ≤ 200 ∧ m.1.size ≤ 200 := by
  obtain ⟨hr, ho, hw, e⟩ := words_of h
  have h1 := (right_size hr).2
  have hl : m.2.length ≤ s.size := by
    have hp := pieces_of h
    have := pieces_count hp
    rw [List.length_map] at this
    exact this
  refine ⟨⟨by simp, fun x hx => ?_⟩, by omega, by omega⟩
  simp only [List.mem_cons, List.not_mem_nil, or_false] at hx
  rw [hx]
  omega

set_option maxHeartbeats 4000000 in
set_option maxRecDepth 100000 in
theorem parses_walk (s : ByteArray) (hE : Env w) (hsm : s.size ≤ 9223372036854775807) : Calls Tryd.prog 8 #[.string s] w fun e w' => e = .returned (.bool true) ∧ Below w.heap.size w w' := by
  by_cases h200 : s.size ≤ 200
  · have g1 : ¬ (200 : Int) < s.size := by omega
    have hP := parse_walk s (by omega) hE
    unfold ParsePost at hP
    replace hP := Aside.mk hP
    replace hE := Aside.mk hE
    go_enter Tryd.func8, Tryd.ntmps8
    go_wp2_with fail
    go_at_call 24
    refine hP.out.mono ?_
    rintro e w1 ⟨hb1, ⟨m, u, hm, rfl, hi⟩ | ⟨hno, rfl⟩⟩
    · obtain ⟨hf, hm2, hm1⟩ := few_one hm h200
      obtain ⟨U, V, rfl, _, _⟩ := id hi
      have q1 := blk_new w1 #[.string m.1, .slice U m.2.length V] 24
      have hA : Below w1.heap.size w1 (w1.alloc (.cells #[.string m.1, .slice U m.2.length V] 24)) := (Gr.alloc _ _).below
      have hB1 := hb1.trans (hA.mono hb1.size)
      have hW : TW w (w1.alloc (.cells #[.string m.1, .slice U m.2.length V] 24)) w1.heap.size m (.slice U m.2.length V) := ⟨q1, hi.below hA, hE.out.below hB1, hB1⟩
      have hR := rparse_walk (w := w1.alloc (.cells #[.string m.1, .slice U m.2.length V] 24)) s (by omega)
      unfold RParsePost at hR
      replace hR := Aside.mk hR
      replace hW := Aside.mk hW
      replace hm := Aside.mk hm
      replace hf := Aside.mk hf
      clear q1 hA hB1 hb1 hi hP
      go_wp2_with fail
      go_at_call 25
      refine hR.out.mono ?_
      rintro e w2 ⟨hb2, ⟨m', u', hm', rfl, hi'⟩ | ⟨hno, _⟩⟩
      · obtain rfl := text_inj hm.out hm'
        obtain ⟨U', V', rfl, _, _⟩ := id hi'
        replace hW := hW.out.below hb2
        generalize w1.heap.size = n at hW ⊢
        have q2 := blk_new w2 #[.string m.1, .slice U' m.2.length V'] 31
        have hA : Below w2.heap.size w2 (w2.alloc (.cells #[.string m.1, .slice U' m.2.length V'] 31)) := (Gr.alloc _ _).below
        replace hW := hW.below hA
        replace hi' := hi'.below hA
        have d1 := (blk_cell hW.b1 0).trans rfl
        have d2 := (blk_cell hW.b1 1).trans rfl
        have d3 := (blk_cell q2 0).trans rfl
        have d4 := (blk_cell q2 1).trans rfl
        have hT := text_walk m hW.hx (by omega) (by omega) hW.env.tab
        rw [hm.out] at hT
        replace hT := Aside.mk hT
        have hWq := Aside.mk (And.intro hW (And.intro q2 hi'))
        clear hA hb2 hR hm' hW q2 hi'
        go_upto_region 5 with fail
        generalize w2.alloc (.cells #[.string m.1, .slice U' m.2.length V'] 31) = W2 at hWq hT d1 d2 d3 d4 ⊢
        generalize w2.heap.size = n2 at hWq d3 d4 ⊢
        go_wp2_with fail
        go_at_call 22
        refine hT.out.mono ?_
        rintro e w3 ⟨rfl, hb3⟩
        obtain ⟨hW, q2, hi'⟩ := hWq.out
        replace hW := hW.below hb3
        replace q2 := (hb3.block _ (blk_lt q2)).trans q2
        replace hi' := hi'.below hb3
        clear d1 d2 d3 d4 hb3 hWq
        have d1 := (blk_cell hW.b1 0).trans rfl
        have d2 := (blk_cell hW.b1 1).trans rfl
        have hA1 : Below w3.heap.size w3 (w3.alloc (.cells #[.string m.1, .slice U m.2.length V] 24)) := (Gr.alloc _ _).below
        have d3 := (hA1.cell (p := ⟨n2, 0, none⟩) (blk_lt q2)).trans ((blk_cell q2 0).trans rfl)
        have d4 := (hA1.cell (p := ⟨n2, 1, none⟩) (blk_lt q2)).trans ((blk_cell q2 1).trans rfl)
        have hRa := one_reads hW.hx 24
        have hA2 : Below (w3.alloc (.cells #[.string m.1, .slice U m.2.length V] 24)).heap.size (w3.alloc (.cells #[.string m.1, .slice U m.2.length V] 24)) ((w3.alloc (.cells #[.string m.1, .slice U m.2.length V] 24)).alloc (.cells #[.string m.1, .slice U' m.2.length V'] 31)) := (Gr.alloc _ _).below
        have hRb := one_reads (hi'.below hA1) 31
        have hS := lsame_walk (hRa.below hA2) hf.out hRb
        rw [decide_eq_true rfl, World.size_alloc] at hS
        have hW5 := Aside.mk ((hW.below hA1).below hA2)
        replace hS := Aside.mk hS
        clear hRa hRb hA1 hA2 hi' q2 hW hT
        go_wp2_with fail
        go_at_call 15
        refine hS.out.mono ?_
        rintro e w4 ⟨rfl, hb4⟩
        have hW := Aside.mk (hW5.out.below hb4)
        clear d1 d2 d3 d4 hb4 hW5 hS
        go_wp2_with (go_at_call 10; refine (awake_walk hW.out.env.tab).mono ?_; rintro e w7 ⟨rfl, hb⟩; replace hb := Aside.mk hb)
        go_ret
        exact ⟨rfl, hW.out.low.trans (hb.out.mono hW.out.low.size)⟩
      · exact absurd hm.out (hno m)
    · have q1 := blk_new w1 #[.string ⟨#[]⟩, .slice none 0 0] 24
      have hA : Below w1.heap.size w1 (w1.alloc (.cells #[.string ⟨#[]⟩, .slice none 0 0] 24)) := (Gr.alloc _ _).below
      have hB1 := hb1.trans (hA.mono hb1.size)
      have hR := rparse_walk (w := w1.alloc (.cells #[.string ⟨#[]⟩, .slice none 0 0] 24)) s (by omega)
      unfold RParsePost at hR
      replace hR := Aside.mk hR
      replace hB1 := Aside.mk hB1
      replace hno := Aside.mk hno
      replace q1 := Aside.mk q1
      clear hA hb1 hP
      go_wp2_with fail
      go_at_call 25
      refine hR.out.mono ?_
      rintro e w2 ⟨hb2, ⟨m', u', hm', _⟩ | ⟨_, x, a, n, c, rfl⟩⟩
      · exact absurd hm' (hno.out m')
      · have hB2 := hB1.out.trans (hb2.mono hB1.out.size)
        have q2 := (hb2.block _ (blk_lt q1.out)).trans q1.out
        generalize w1.heap.size = n1 at q1 q2 ⊢
        have hA2 : Below w2.heap.size w2 (w2.alloc (.cells #[.string x, .slice a n c] 31)) := (Gr.alloc _ _).below
        have q3 := (hA2.block _ (blk_lt q2)).trans q2
        have d1 := (blk_cell q3 0).trans rfl
        have d2 := (blk_cell q3 1).trans rfl
        have hB3 := Aside.mk (hB2.trans (hA2.mono hB2.size))
        clear hB1 hB2 hb2 q1 q2 q3 hA2 hR
        go_wp2_with (go_at_call 10; refine (awake_walk (hE.out.below hB3.out).tab).mono ?_; rintro e w7 ⟨rfl, hb⟩; replace hb := Aside.mk hb)
        go_ret
        exact ⟨rfl, hB3.out.trans (hb.out.mono hB3.out.size)⟩
  · have g1 : (200 : Int) < s.size := by omega
    replace hE := Aside.mk hE
    go_enter Tryd.func8, Tryd.ntmps8
    go_wp2_with (go_at_call 10; refine (awake_walk hE.out.tab).mono ?_; rintro e w7 ⟨rfl, hb⟩; replace hb := Aside.mk hb)
    go_ret
    exact ⟨rfl, hb.out⟩
end
end Go.Proofs.YtmhpogajklihdaaDoor.C
