/- 'Parse' of layer 20. -/
import Derived.Test.YtmhpogajklihdaaDoorCRTextW
import Derived.Test.YtmhpogajklihdaaDoorCApp
namespace Go.Proofs.YtmhpogajklihdaaDoor.C
open Go.RowKit Go.Shelf Go.Lib Go.Sort Go.Proofs.YtmhpogajklihdaaDoorW.PrintWords

theorem words_le : ∀ (s : List UInt8), ∀ x ∈ words s, x.length ≤ s.length
  | [], x, h => by simp [words] at h; subst h; simp
  | c :: r, x, h => by
    have ih := words_le r
    unfold words at h
    split at h
    · rcases List.mem_cons.1 h with rfl | h
      · simp
      · have := ih x h; simp; omega
    · obtain ⟨y, t, e⟩ : ∃ y t, words r = y :: t := by
        cases hh : words r with
        | nil => exact absurd hh (words_ne r)
        | cons a t => exact ⟨a, t, rfl⟩
      rw [e] at h ih
      rcases List.mem_cons.1 h with rfl | h
      · have := ih y (by simp); simp; omega
      · have := ih x (by simp at h; simp [h]); simp; omega
theorem pieces_le {s x : ByteArray} (h : x ∈ pieces s) : x.size ≤ s.size := by
  unfold pieces at h
  obtain ⟨y, hy, rfl⟩ := List.mem_map.1 h
  rw [str_size]
  have := words_le _ y hy
  simpa using this
theorem pieces_count {s r : ByteArray} {t : List ByteArray} (h : pieces s = r :: t) : t.length ≤ s.size := by
  have h1 := pieces_len s
  rw [h] at h1
  have := countB_le (str [32]) (by decide) s.size s (Nat.le_refl _)
  simp at h1
  omega

/-- How 'Parse' ends. -/
def ParsePost (s : ByteArray) (w : World) (e : Ending) (w' : World) : Prop :=
  Below w.heap.size w w' ∧ ((∃ (m : M) (u : Value), textM m = (s, 0) ∧ e = .returned (.tuple #[.agg #[.string m.1, u], .int .i64 0]) ∧ IdsAt w' u m.2) ∨ ((∀ m, textM m ≠ (s, 0)) ∧ e = .returned (.tuple #[.agg #[.string ⟨#[]⟩, .slice none 0 0], .int .i64 14])))

theorem build24n (w : World) : (Instr.build 24 #[]).run Tryd.prog w = .ok (.agg #[.string ⟨#[]⟩, .slice none 0 0]) w := by kernel_rfl
theorem build24s (w : World) (r : ByteArray) : (Instr.build 24 #[(0, .string r)]).run Tryd.prog w = .ok (.agg #[.string r, .slice none 0 0]) w := by kernel_rfl

/-- The words behind the first one. -/
theorem run_tail (pb n : Nat) (hn : n ≤ 1000) (W : World) : ∃ A1 : Addr, (0 < n → A1 = ⟨pb, 1, none⟩) ∧ (Instr.slice 63 (.slice (some ⟨pb, 0, none⟩) (n + 1) (n + 1)) (some (.int .i64 1)) none none).run Tryd.prog W = .ok (.slice (some A1) n n) W := by
  have h1 : (1 : Int) ≤ n + 1 := by omega
  by_cases h : n = 0
  · subst h
    exact ⟨⟨pb, 0, none⟩, fun h => absurd h (by omega), by kernel_rfl⟩
  · have h2 : ¬ (1 : Int) = n + 1 := by omega
    exact ⟨⟨pb, 1, none⟩, fun _ => rfl, by go_simp⟩

/-- What stands in memory while the words are read. -/
structure PW (w W : World) (rb pb mb : Nat) (cs : Array Value) (r : ByteArray) (v : Value) (ids : List Int) : Prop where
  z : W.heap[rb]? = some (.cells #[.string ⟨#[]⟩, .slice none 0 0] 24 (0, 0))
  p : W.heap[pb]? = some (.cells cs 9 (0, 0))
  m : W.heap[mb]? = some (.cells #[.string r, v] 24 (0, 0))
  o : IdOwn W w.heap.size v ids
  low : Below w.heap.size w W
theorem PW.below {w W W' : World} {rb pb mb : Nat} {cs : Array Value} {r : ByteArray} {v : Value} {ids : List Int} (h : PW w W rb pb mb cs r v ids) (hb : Below W.heap.size W W') : PW w W' rb pb mb cs r v ids :=
  ⟨(hb.block _ (blk_lt h.z)).trans h.z, (hb.block _ (blk_lt h.p)).trans h.p, (hb.block _ (blk_lt h.m)).trans h.m, h.o.below hb, h.low.trans (hb.mono h.low.size)⟩
theorem PW.far {w W w1 : World} {rb pb mb : Nat} {cs : Array Value} {r : ByteArray} {v : Value} {ids : List Int} (h : PW w W rb pb mb cs r v ids) (hg : W.grownBy w1 v.ownBlock) : w1.heap[mb]? = some (.cells #[.string r, v] 24 (0, 0)) :=
  (hg.block mb (blk_lt h.m) (fun e => by
    obtain ⟨c2, k2⟩ := own_typed h.o mb e.symm
    rw [h.m] at k2
    cases k2)).trans h.m
/-- Behind an append to the ids, and its store. -/
theorem PW.next {w W w1 : World} {rb pb mb : Nat} {cs : Array Value} {r : ByteArray} {v v1 : Value} {ids ids1 : List Int} (h : PW w W rb pb mb cs r v ids) (hg : W.grownBy w1 v.ownBlock) (ho : IdOwn w1 w.heap.size v1 ids1) (hm : w.heap.size ≤ mb) (hrm : rb ≠ mb) (hpm : pb ≠ mb) :
    PW w (w1.setCell ⟨mb, 1, none⟩ v1) rb pb mb cs r v1 ids1 := by
  have far : ∀ {b : Nat} {c : Array Value} {T : TypeId}, W.heap[b]? = some (.cells c T (0, 0)) → T ≠ 3 → w1.heap[b]? = some (.cells c T (0, 0)) := fun {b c T} hb hT => (hg.block b (blk_lt hb) (fun e => by
    obtain ⟨c2, k2⟩ := own_typed h.o b e.symm
    rw [hb] at k2
    cases k2
    exact hT rfl)).trans hb
  have hm1 := far h.m (by decide)
  refine ⟨blk_far (far h.z (by decide)) hrm _, blk_far (far h.p (by decide)) hpm _, ?_, ?_, ?_⟩
  · have := blk_set hm1 1 v1
    simpa using this
  · refine owns_move ho fun b _ _ hb => Below.heap_setCell _ _ _ _ ?_
    rintro rfl
    obtain ⟨c2, k2⟩ := own_typed ho _ hb
    rw [hm1] at k2
    cases k2
  · exact (h.low.grown hg h.low.size (fun k hk => own_from h.o hk)).setCell hm v1

section
variable {w : World}

set_option maxHeartbeats 4000000 in
set_option maxRecDepth 100000 in
theorem parse_walk (s : ByteArray) (hs : s.size ≤ 1000) (hE : Env w) : Calls Tryd.prog 24 #[.string s] w (ParsePost s w) := by
  obtain ⟨r, t, hp⟩ := pieces_cons s
  have htl := pieces_count hp
  have hrs : r.size ≤ 1000 := Nat.le_trans (pieces_le (s := s) (by rw [hp]; simp)) hs
  have hts : Aside (∀ j (_ : j < t.length), t[j].size ≤ 1000) := ⟨fun j hj => Nat.le_trans (pieces_le (s := s) (by rw [hp]; exact List.mem_cons_of_mem _ (List.getElem_mem hj))) hs⟩
  have hyes := Aside.mk (fun (m : M) (h : textM m = (s, 0)) => parse_yes h hp)
  obtain ⟨i0, hi0, hz0, hz1, hz2⟩ := info_parts info3
  replace hi0 := Aside.mk hi0
  replace hz0 := Aside.mk hz0
  replace hz1 := Aside.mk hz1
  replace hz2 := Aside.mk hz2
  have hmax : 1000000 ≤ maxLen := by decide
  obtain ⟨cs, hcs⟩ : ∃ cs, cs = ((pieces s).map Value.string).toArray := ⟨_, rfl⟩
  have hpl : (pieces s).length = t.length + 1 := by rw [hp]; rfl
  have hc0 : cs[0]? = some (.string r) := by rw [hcs, hp]; rfl
  have hcj : Aside (∀ j (_ : j < t.length), cs[1 + j]? = some (.string t[j])) := ⟨fun j hj => by
    rw [hcs, hp]
    simp [Nat.add_comm 1 j, hj]⟩
  have hA : Below w.heap.size w (w.alloc (.cells #[.string ⟨#[]⟩, .slice none 0 0] 24)) := (Gr.alloc _ _).below
  have hSp := split_any s hs (w.alloc (.cells #[.string ⟨#[]⟩, .slice none 0 0] 24)) (hE.below hA)
  unfold SplitPost at hSp
  rw [hpl, ← hcs, World.size_alloc] at hSp
  replace hSp := Aside.mk hSp
  have hcs' := Aside.mk hcs
  replace hpl := Aside.mk hpl
  clear hcs
  replace hE := Aside.mk hE
  replace hp := Aside.mk hp
  generalize hPP : ParsePost s w = PP
  replace hPP := Aside.mk hPP
  go_enter Tryd.func24, Tryd.ntmps24
  go_wp2_with fail
  go_at_call 41
  refine hSp.out.mono ?_
  rintro e w2 ⟨rfl, hw2⟩
  have hz2' : w2.heap[w.heap.size]? = some (.cells #[.string ⟨#[]⟩, .slice none 0 0] 24 (0, 0)) := by
    rw [hw2]
    exact (Below.heap_alloc _ (.cells cs 9) _ (by simp)).trans (blk_new w _ _)
  have hp2 : w2.heap[w.heap.size + 1]? = some (.cells cs 9 (0, 0)) := by
    rw [hw2]
    have := blk_new (w.alloc (.cells #[.string ⟨#[]⟩, .slice none 0 0] 24)) cs 9
    rw [World.size_alloc] at this
    exact this
  have hlow2 : Below w.heap.size w w2 := by
    rw [hw2]
    exact (Gr.trans _ _ _ (Gr.alloc _ _) (Gr.alloc _ _)).below
  have hsz2 : w2.heap.size = w.heap.size + 2 := by rw [hw2]; simp
  clear hw2 hSp hA
  obtain ⟨rb, hrb⟩ : ∃ n, n = w.heap.size := ⟨_, rfl⟩
  rw [← hrb] at hz2' hp2 hsz2 hlow2 ⊢
  obtain ⟨pb, hpb⟩ : ∃ n, n = rb + 1 := ⟨_, rfl⟩
  rw [← hpb] at hp2 ⊢
  have c0 := (blk_cell hp2 0).trans hc0
  obtain ⟨mb, hmb⟩ : ∃ n, n = w2.heap.size := ⟨_, rfl⟩
  have hbs := build24s w2 r
  have hm3 := blk_new w2 #[.string r, .slice none 0 0] 24
  rw [← hmb] at hm3
  have hA3 : Below w2.heap.size w2 (w2.alloc (.cells #[.string r, .slice none 0 0] 24)) := (Gr.alloc _ _).below
  have hPW : PW w (w2.alloc (.cells #[.string r, .slice none 0 0] 24)) rb pb mb cs r (.slice none 0 0) [] := ⟨(hA3.block _ (blk_lt hz2')).trans hz2', (hA3.block _ (blk_lt hp2)).trans hp2, hm3, World.ownsRow_nil _ _ _ _, by rw [← hrb]; exact hlow2.trans (hA3.mono (by rw [hsz2]; omega))⟩
  have n1 := Aside.mk (show rb ≠ mb ∧ pb ≠ mb ∧ w.heap.size ≤ mb ∧ w.heap.size ≤ rb by rw [hmb, hsz2, hpb, hrb]; omega)
  replace hrb := Aside.mk hrb
  replace hpb := Aside.mk hpb
  replace hmb' := Aside.mk hmb
  replace hPW := Aside.mk hPW
  have hmb2 := Aside.mk hmb
  clear hz2' hp2 hlow2 hm3 hA3 hsz2
  go_upto_region 3 with fail
  rw [← hmb2.out]
  generalize w2.alloc (.cells #[.string r, .slice none 0 0] 24) = W3 at hPW ⊢
  clear hbs c0 hmb hmb2 hmb'
  obtain ⟨n1, n2, n3, n4⟩ := n1.out
  replace n1 := Aside.mk n1
  replace n2 := Aside.mk n2
  obtain ⟨A1, hA1, hsl⟩ := run_tail pb t.length (by omega) W3
  replace hA1 := Aside.mk hA1
  go_wp2_with fail
  clear hsl
  go_loopw [21] (fun a wr => ∃ (j : Nat) (v : Value), a = .int .i64 (j : Int) ∧ j ≤ t.length ∧ (∀ q (_ : q < t.length), q < j → ∃ x, atoiAll t[q].data.toList = .ok x) ∧ PW w wr rb pb mb cs r v ((t.take j).map wv)) (fun a _ => t.length - (intOf a).toNat)
  case atStart => exact ⟨0, _, rfl, Nat.zero_le _, fun _ _ h => absurd h (by omega), hPW.out⟩
  case round =>
    clear hPW
    obtain ⟨j, v, rfl, hj, hall, hW⟩ := hrel
    replace hall := Aside.mk hall
    by_cases hlt : j < t.length
    · have c0 : wr.cell? ⟨pb, 1 + j, none⟩ = some (.string t[j]) := (blk_cell hW.p (1 + j)).trans (hcj.out j hlt)
      have hEr := Aside.mk (hE.out.below hW.low)
      obtain rfl := hA1.out (by omega)
      by_cases hok : ∃ x, atoiAll t[j].data.toList = .ok x
      · have HC := Aside.mk (atoi_ok t[j] (hts.out j hlt) (wv t[j]) (by obtain ⟨x, hx⟩ := hok; rw [wv_ok hx]; exact hx) wr)
        replace hok := Aside.mk hok
        replace hW := Aside.mk hW
        go_upto_region 9 with (go_at_call 42; refine HC.out.mono ?_; rintro e w5 ⟨rfl, hb⟩; replace hb := Aside.mk hb)
        have hW5 := hW.out.below hb.out
        obtain ⟨va, vc, rfl⟩ := owns_form hW5.o
        have hA6 : Below w5.heap.size w5 (w5.alloc (.cells #[.int .i64 (wv t[j])] 3)) := (Gr.alloc _ _).below
        have hW6 := hW5.below hA6
        have m0 := (blk_cell hW5.m 1).trans rfl
        have hcn := Aside.mk (cells_new w5 [.int .i64 (wv t[j])] 3 rfl)
        have hown := hW6.o
        have hz6 := hW6.low.size
        have hlen : ((t.take j).map wv).length = j := by rw [List.length_map, List.length_take]; omega
        have htk := Aside.mk (List.take_succ_eq_append_getElem hlt)
        unfold IdOwn at hown
        rw [hlen] at hown m0 hW6
        have hlen' := Aside.mk hlen
        replace hW6 := Aside.mk hW6
        clear hW5 hb hlen hA6 c0 HC hW
        go_wp2_with (at_builtin; refine wpList_append_own _ rfl _ _ 22 rfl w.heap.size 3 i0 (.int .i64 0) 1 8 Tryd.underlying22 hi0.out hz0.out hz1.out hz2.out rfl (by decide) _ _ _ rfl hown ⟨w5.heap.size, 0, none⟩ 1 1 [.int .i64 (wv t[j])] rfl rfl hcn.out (by simp [Value.oneCell']) (by omega) (by omega) hz6 ?_; intro v7 w7 hown7 hgr7 _; obtain ⟨va7, vc7, e7⟩ := owns_form hown7; subst e7; have hm7 := hW6.out.far hgr7; have f0 := (blk_cell hm7 1).trans rfl; have f1 := blk_frozen hm7 1; clear hm7; replace hown7 := Aside.mk hown7; replace hgr7 := Aside.mk hgr7)
        go_roundw
        case rel =>
          refine ⟨j + 1, _, by go_num, by omega, fun q hq h => ?_, hW6.out.next hgr7.out ?_ n3 n1.out n2.out⟩
          · by_cases e : q = j
            · subst e; exact hok.out
            · exact hall.out q hq (by omega)
          · unfold IdOwn
            rw [htk.out, List.map_append, List.length_append, List.map_append, hlen'.out]
            exact hown7.out
        case measure => simp [intOf]; omega
      · have HC := atoi_bad t[j] (hts.out j hlt) (fun x hx => hok ⟨x, hx⟩) wr hEr.out
        unfold AtoiBad at HC
        have hno := Aside.mk (fun (m : M) (h : textM m = (s, 0)) => hok ((hyes.out m h).1 t[j] (List.getElem_mem hlt)))
        replace HC := Aside.mk HC
        replace hW := Aside.mk hW
        clear hok
        go_upto_region 8 with (go_at_call 42; refine HC.out.mono ?_; rintro e w5 ⟨em, eN, rfl, hb⟩; replace hb := Aside.mk hb)
        have hW5 := hW.out.below hb.out
        have z0 := (blk_cell hW5.z 0).trans rfl
        have z1 := (blk_cell hW5.z 1).trans rfl
        have z2 := blk_frozen hW5.z 0
        have z3 := blk_frozen hW5.z 1
        have hzz := Aside.mk hW5.z
        have hlow := Aside.mk hW5.low
        have hbs := build24n w5
        clear hW5 hb hW HC
        go_wp2_with fail
        have hput := blk_set (blk_set hzz.out 0 (.string ⟨#[]⟩)) 1 (.slice none 0 0)
        have r0 := (blk_cell hput 0).trans (show _ = some (Value.string ⟨#[]⟩) from rfl)
        have r1 := (blk_cell hput 1).trans (show _ = some (Value.slice none 0 0) from rfl)
        refine bodyPost_ret (v := .tuple #[.agg #[.string ⟨#[]⟩, .slice none 0 0], .int .i64 14]) (by simp [results, Tryd.results24, go_sem, r0, r1]) rfl ?_
        rw [← hPP.out]
        exact ⟨(hlow.out.setCell (p := ⟨rb, 0, none⟩) n4 _).setCell (p := ⟨rb, 1, none⟩) n4 _, .inr ⟨fun m h => hno.out m h, rfl⟩⟩
    · obtain rfl : j = t.length := by omega
      rw [List.take_length] at hW
      obtain ⟨va, vc, rfl⟩ := owns_form hW.o
      have m0 := (blk_cell hW.m 0).trans rfl
      have m1 := (blk_cell hW.m 1).trans rfl
      have HC := text_walk (w := wr) (m := (r, t.map wv)) hW.o.at_ (by rw [List.length_map]; omega) hrs (hE.out.below hW.low).tab
      have hlm : (t.map wv).length = t.length := by simp
      rw [hlm] at hW m1 HC
      clear hlm
      generalize hT : textM (r, t.map wv) = T at HC
      obtain ⟨S, c⟩ := T
      have hun := Aside.mk (fun (m : M) (h : textM m = (s, 0)) => show (S, c) = (s, 0) by rw [← hT, (hyes.out m h).2]; exact h)
      replace hT := Aside.mk hT
      replace HC := Aside.mk HC
      replace hW := Aside.mk hW
      by_cases hc : c = 0
      · subst hc
        by_cases hS : S = s
        · subst hS
          go_upto_region 14 with (go_at_call 22; refine HC.out.mono ?_; rintro e w5 ⟨rfl, hb⟩; replace hb := Aside.mk hb)
          have hW5 := hW.out.below hb.out
          have z0 := (blk_cell hW5.z 0).trans rfl
          have z1 := (blk_cell hW5.z 1).trans rfl
          have z2 := blk_frozen hW5.z 0
          have z3 := blk_frozen hW5.z 1
          have y0 := (blk_cell hW5.m 0).trans rfl
          have y1 := (blk_cell hW5.m 1).trans rfl
          have hzz := Aside.mk hW5.z
          have hlow := Aside.mk hW5.low
          have hio := Aside.mk hW5.o
          clear hW5 hb hW HC m0 m1
          go_wp2_with fail
          have hput := blk_set (blk_set hzz.out 0 (.string r)) 1 (.slice va t.length vc)
          have r0 := (blk_cell hput 0).trans (show _ = some (Value.string r) from rfl)
          have r1 := (blk_cell hput 1).trans (show _ = some (Value.slice va t.length vc) from rfl)
          have hne : ∀ b, (Value.slice va t.length vc).ownBlock = some b → b ≠ rb := fun b hb e => by
            obtain ⟨c2, k2⟩ := own_typed hio.out b hb
            rw [e, hzz.out] at k2
            cases k2
          refine bodyPost_ret (v := .tuple #[.agg #[.string r, .slice va t.length vc], .int .i64 0]) (by simp [results, Tryd.results24, go_sem, r0, r1]) rfl ?_
          rw [← hPP.out]
          refine ⟨(hlow.out.setCell (p := ⟨rb, 0, none⟩) n4 _).setCell (p := ⟨rb, 1, none⟩) n4 _, .inl ⟨(r, t.map wv), _, hT.out, rfl, ?_⟩⟩
          exact IdOwn.at_ (B := w.heap.size) (owns_move hio.out fun b _ _ hb => (Below.heap_setCell _ _ _ _ (hne b hb)).trans (Below.heap_setCell _ _ _ _ (hne b hb)))
        · have hS2 := str_ne hS
          go_upto_region 13 with (go_at_call 22; refine HC.out.mono ?_; rintro e w5 ⟨rfl, hb⟩; replace hb := Aside.mk hb)
          have hW5 := hW.out.below hb.out
          have z0 := (blk_cell hW5.z 0).trans rfl
          have z1 := (blk_cell hW5.z 1).trans rfl
          have z2 := blk_frozen hW5.z 0
          have z3 := blk_frozen hW5.z 1
          have hzz := Aside.mk hW5.z
          have hlow := Aside.mk hW5.low
          have hbs := build24n w5
          clear hW5 hb hW HC
          go_wp2_with fail
          have hput := blk_set (blk_set hzz.out 0 (.string ⟨#[]⟩)) 1 (.slice none 0 0)
          have r0 := (blk_cell hput 0).trans (show _ = some (Value.string ⟨#[]⟩) from rfl)
          have r1 := (blk_cell hput 1).trans (show _ = some (Value.slice none 0 0) from rfl)
          refine bodyPost_ret (v := .tuple #[.agg #[.string ⟨#[]⟩, .slice none 0 0], .int .i64 14]) (by simp [results, Tryd.results24, go_sem, r0, r1]) rfl ?_
          rw [← hPP.out]
          exact ⟨(hlow.out.setCell (p := ⟨rb, 0, none⟩) n4 _).setCell (p := ⟨rb, 1, none⟩) n4 _, .inr ⟨fun m h => hS (congrArg Prod.fst (hun.out m h)), rfl⟩⟩
      · have hc1 : (c == 0) = false := by simpa using hc
        have hc2 : (c != 0) = true := by simpa using hc
        go_upto_region 13 with (go_at_call 22; refine HC.out.mono ?_; rintro e w5 ⟨rfl, hb⟩; replace hb := Aside.mk hb)
        have hW5 := hW.out.below hb.out
        have z0 := (blk_cell hW5.z 0).trans rfl
        have z1 := (blk_cell hW5.z 1).trans rfl
        have z2 := blk_frozen hW5.z 0
        have z3 := blk_frozen hW5.z 1
        have hzz := Aside.mk hW5.z
        have hlow := Aside.mk hW5.low
        have hbs := build24n w5
        clear hW5 hb hW HC
        go_wp2_with fail
        have hput := blk_set (blk_set hzz.out 0 (.string ⟨#[]⟩)) 1 (.slice none 0 0)
        have r0 := (blk_cell hput 0).trans (show _ = some (Value.string ⟨#[]⟩) from rfl)
        have r1 := (blk_cell hput 1).trans (show _ = some (Value.slice none 0 0) from rfl)
        refine bodyPost_ret (v := .tuple #[.agg #[.string ⟨#[]⟩, .slice none 0 0], .int .i64 14]) (by simp [results, Tryd.results24, go_sem, r0, r1]) rfl ?_
        rw [← hPP.out]
        exact ⟨(hlow.out.setCell (p := ⟨rb, 0, none⟩) n4 _).setCell (p := ⟨rb, 1, none⟩) n4 _, .inr ⟨fun m h => hc (congrArg Prod.snd (hun.out m h)), rfl⟩⟩
end
end Go.Proofs.YtmhpogajklihdaaDoor.C
