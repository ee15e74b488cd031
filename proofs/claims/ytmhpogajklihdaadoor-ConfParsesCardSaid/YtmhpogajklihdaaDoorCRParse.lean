/- 'Parse' of the document. -/
import Derived.Test.YtmhpogajklihdaaDoorCParse
import Derived.Test.YtmhpogajklihdaaDoorCRefT
import Derived.Test.YtmhpogajklihdaaDoorCSorts
import Derived.Deep.RegionWith
namespace Go.Proofs.YtmhpogajklihdaaDoor.C
open Go.RowKit Go.Shelf Go.Lib Go.Sort Go.Proofs.YtmhpogajklihdaaDoorW.PrintWords

/-- How 'Parse' ends. -/
def RParsePost (s : ByteArray) (w : World) (e : Ending) (w' : World) : Prop :=
  Below w.heap.size w w' ∧ ((∃ (m : M) (u : Value), textM m = (s, 0) ∧ e = .returned (.tuple #[.agg #[.string m.1, u], .bool true]) ∧ IdsAt w' u m.2) ∨ ((∀ m, textM m ≠ (s, 0)) ∧ ∃ x a n c, e = .returned (.tuple #[.agg #[.string x, .slice a n c], .bool false])))

theorem build31n (w : World) : (Instr.build 31 #[]).run Tryd.prog w = .ok (.agg #[.string ⟨#[]⟩, .slice none 0 0]) w := by kernel_rfl
theorem build31s (w : World) (r : ByteArray) : (Instr.build 31 #[(0, .string r)]).run Tryd.prog w = .ok (.agg #[.string r, .slice none 0 0]) w := by kernel_rfl

/-- The words behind the first one. -/
theorem run_tail2 (pb n c : Nat) (hn : n ≤ 1000) (hc : n + 1 ≤ c) (hcm : c ≤ 9223372036854775807) (W : World) : ∃ A1 : Addr, (0 < n → A1 = ⟨pb, 1, none⟩) ∧ (Instr.slice 63 (.slice (some ⟨pb, 0, none⟩) (n + 1) c) (some (.int .i64 1)) none none).run Tryd.prog W = .ok (.slice (some A1) n (c - 1)) W := by
  have h1 : (1 : Int) ≤ n + 1 := by omega
  have h3 : (1 : Int) ≤ c := by omega
  have h4 : (n : Int) + 1 ≤ c := by omega
  by_cases h : c = 1
  · subst h
    obtain rfl : n = 0 := by omega
    exact ⟨⟨pb, 0, none⟩, fun h => absurd h (by omega), by kernel_rfl⟩
  · have h2 : ¬ (1 : Int) = c := by omega
    exact ⟨⟨pb, 1, none⟩, fun _ => rfl, by go_simp⟩

/-- What stands in memory while the words are read. -/
structure RW (w W : World) (rb pb mb : Nat) (cs : Array Value) (r : ByteArray) (v : Value) (ids : List Int) : Prop where
  z : W.heap[rb]? = some (.cells #[.string ⟨#[]⟩, .slice none 0 0] 31 (0, 0))
  p : W.heap[pb]? = some (.cells cs 9 (0, 0))
  m : W.heap[mb]? = some (.cells #[.string r, v] 31 (0, 0))
  o : IdOwn W w.heap.size v ids
  low : Below w.heap.size w W
theorem RW.below {w W W' : World} {rb pb mb : Nat} {cs : Array Value} {r : ByteArray} {v : Value} {ids : List Int} (h : RW w W rb pb mb cs r v ids) (hb : Below W.heap.size W W') : RW w W' rb pb mb cs r v ids :=
  ⟨(hb.block _ (blk_lt h.z)).trans h.z, (hb.block _ (blk_lt h.p)).trans h.p, (hb.block _ (blk_lt h.m)).trans h.m, h.o.below hb, h.low.trans (hb.mono h.low.size)⟩
theorem RW.far {w W w1 : World} {rb pb mb : Nat} {cs : Array Value} {r : ByteArray} {v : Value} {ids : List Int} (h : RW w W rb pb mb cs r v ids) (hg : W.grownBy w1 v.ownBlock) : w1.heap[mb]? = some (.cells #[.string r, v] 31 (0, 0)) :=
  (hg.block mb (blk_lt h.m) (fun e => by
    obtain ⟨c2, k2⟩ := own_typed h.o mb e.symm
    rw [h.m] at k2
    cases k2)).trans h.m
/-- Behind an append to the ids, and its store. -/
theorem RW.next {w W w1 : World} {rb pb mb : Nat} {cs : Array Value} {r : ByteArray} {v v1 : Value} {ids ids1 : List Int} (h : RW w W rb pb mb cs r v ids) (hg : W.grownBy w1 v.ownBlock) (ho : IdOwn w1 w.heap.size v1 ids1) (hm : w.heap.size ≤ mb) (hrm : rb ≠ mb) (hpm : pb ≠ mb) :
    RW w (w1.setCell ⟨mb, 1, none⟩ v1) rb pb mb cs r v1 ids1 := by
  have far : ∀ {b : Nat} {c : Array Value} {T : TypeId}, W.heap[b]? = some (.cells c T (0, 0)) → T ≠ 3 → w1.heap[b]? = some (.cells c T (0, 0)) := fun {b c T} hb hT => (hg.block b (blk_lt hb) (fun e => by
    obtain ⟨c2, k2⟩ := own_typed h.o b e.symm
    rw [hb] at k2
    cases k2
    exact hT rfl)).trans hb
  have hm1 := far h.m (by decide)
  refine ⟨blk_far (far h.z (by decide)) hrm _, blk_far (far h.p (by decide)) hpm _, ?_, ?_, ?_⟩
  · have := blk_set hm1 1 v1
    simpa using this
  · refine owns_move ho fun b _ _ hb => Below.heap_setCell _ _ _ _ ?_
    rintro rfl
    obtain ⟨c2, k2⟩ := own_typed ho _ hb
    rw [hm1] at k2
    cases k2
  · exact (h.low.grown hg h.low.size (fun k hk => own_from h.o hk)).setCell hm v1

attribute [local go_sem] XReg.envOf
section
variable {w : World}

set_option maxHeartbeats 4000000 in
set_option maxRecDepth 100000 in
theorem rparse_walk (s : ByteArray) (hs : s.size ≤ 1000) : Calls Tryd.prog 25 #[.string s] w (RParsePost s w) := by
  obtain ⟨r, t, hp⟩ := pieces_cons s
  have htl := pieces_count hp
  have hrs : r.size ≤ 1000 := Nat.le_trans (pieces_le (s := s) (by rw [hp]; simp)) hs
  have hyes := Aside.mk (fun (m : M) (h : textM m = (s, 0)) => rparse_yes h hp)
  have hof := Aside.mk (fun h1 h2 => rparse_of (s := s) (r := r) (t := t) hp h1 h2)
  obtain ⟨i0, hi0, hz0, hz1, hz2⟩ := info_parts info3
  replace hi0 := Aside.mk hi0
  replace hz0 := Aside.mk hz0
  replace hz1 := Aside.mk hz1
  replace hz2 := Aside.mk hz2
  have hmax : 1000000 ≤ maxLen := by decide
  have hpl : (pieces s).length = t.length + 1 := by rw [hp]; rfl
  have hA : Below w.heap.size w (w.alloc (.cells #[.string ⟨#[]⟩, .slice none 0 0] 31)) := (Gr.alloc _ _).below
  have hSp := refWords_any s hs (w.alloc (.cells #[.string ⟨#[]⟩, .slice none 0 0] 31))
  unfold WordsPost at hSp
  have hq0 := blk_new w #[.string ⟨#[]⟩, .slice none 0 0] 31
  have hsz0 : (w.alloc (.cells #[.string ⟨#[]⟩, .slice none 0 0] 31)).heap.size = w.heap.size + 1 := by simp
  replace hSp := Aside.mk hSp
  replace hpl := Aside.mk hpl
  replace hp := Aside.mk hp
  replace hq0 := Aside.mk hq0
  replace hA := Aside.mk hA
  replace hsz0 := Aside.mk hsz0
  generalize hPP : RParsePost s w = PP
  replace hPP := Aside.mk hPP
  go_enter Tryd.func25, Tryd.ntmps25
  go_wp2_with fail
  go_at_call 43
  refine hSp.out.mono ?_
  rintro e w2 ⟨v2, rfl, hR, hb2⟩
  have hown := Kd.own_of_R hR
  rw [hpl.out, hp.out] at hown
  obtain ⟨pb, pc, rfl, hpB, hpl2⟩ := owns_form1 hown (by omega)
  have hpcm : t.length + 1 ≤ pc ∧ pc ≤ 9223372036854775807 := by
    obtain ⟨g, cap, cur, e, _, _, h1, h2, _⟩ := owns_open hown (by omega)
    simp only [Value.slice.injEq, true_and] at e
    unfold maxLen at h2
    omega
  rw [hsz0.out] at hpB
  obtain ⟨pcs, hpcs⟩ := own_typed hown pb (by simp [Value.ownBlock])
  have hcj : Aside (∀ j (_ : j < t.length), pcs[1 + j]? = some (.string t[j])) := ⟨fun j hj => by
    have := hown.cellAt (1 + j) (by omega)
    rw [blk_cell hpcs] at this
    rw [this, show 1 + j = j + 1 by omega, show encs Value.string (r :: t) = (r :: t).map Value.string from rfl, List.map_cons, List.getElem?_cons_succ, List.getElem?_map, List.getElem?_eq_getElem hj]
    rfl⟩
  have c0 : w2.cell? ⟨pb, 0, none⟩ = some (.string r) := (hown.cellAt 0 (by omega)).trans rfl
  have hz2' := (hb2.block _ (blk_lt hq0.out)).trans hq0.out
  have hlow2 : Below w.heap.size w w2 := hA.out.trans (hb2.mono (by rw [hsz0.out]; omega))
  have hsz2 : w.heap.size + 1 ≤ w2.heap.size := by have := hb2.size; rw [hsz0.out] at this; exact this
  clear hSp hA hq0 hR hown hb2
  obtain ⟨mb, hmb⟩ : ∃ n, n = w2.heap.size := ⟨_, rfl⟩
  have hbs := build31s w2 r
  have hm3 := blk_new w2 #[.string r, .slice none 0 0] 31
  rw [← hmb] at hm3
  have hA3 : Below w2.heap.size w2 (w2.alloc (.cells #[.string r, .slice none 0 0] 31)) := (Gr.alloc _ _).below
  have hPW : RW w (w2.alloc (.cells #[.string r, .slice none 0 0] 31)) w.heap.size pb mb pcs r (.slice none 0 0) [] := ⟨(hA3.block _ (blk_lt hz2')).trans hz2', (hA3.block _ (blk_lt hpcs)).trans hpcs, hm3, World.ownsRow_nil _ _ _ _, hlow2.trans (hA3.mono (by omega))⟩
  have n1 := Aside.mk (show w.heap.size ≠ mb ∧ pb ≠ mb ∧ w.heap.size ≤ mb by rw [hmb]; have := hpl2; omega)
  replace hPW := Aside.mk hPW
  have hmb2 := Aside.mk hmb
  obtain ⟨rb, hrb⟩ : ∃ n, n = w.heap.size := ⟨_, rfl⟩
  rw [← hrb] at hPW n1
  have n4 : w.heap.size ≤ rb := by omega
  have hrb' := Aside.mk hrb
  clear hz2' hlow2 hm3 hA3 hsz2 hpB hpl2 hpcs hmb hrb
  rw [← hrb'.out]
  go_upto_region 3 with fail
  rw [← hmb2.out]
  generalize w2.alloc (.cells #[.string r, .slice none 0 0] 31) = W3 at hPW ⊢
  clear hbs c0 hmb2
  obtain ⟨n1, n2, n3⟩ := n1.out
  replace n1 := Aside.mk n1
  replace n2 := Aside.mk n2
  replace n3 : w.heap.size ≤ mb := by rw [← hrb'.out]; exact n3
  obtain ⟨A1, hA1, hsl⟩ := run_tail2 pb t.length pc (by omega) hpcm.1 hpcm.2 W3
  replace hA1 := Aside.mk hA1
  go_wp2_with fail
  clear hsl
  go_loopw [18] (fun a wr => ∃ (j : Nat) (v : Value), a = .int .i64 (j : Int) ∧ j ≤ t.length ∧ (∀ q (_ : q < t.length), q < j → 1 ≤ number t[q].data.toList) ∧ RW w wr rb pb mb pcs r v ((t.take j).map fun x => number x.data.toList)) (fun a _ => t.length - (intOf a).toNat)
  case atStart => exact ⟨0, _, rfl, Nat.zero_le _, fun _ _ h => absurd h (by omega), hPW.out⟩
  case round =>
    clear hPW
    obtain ⟨j, v, rfl, hj, hall, hW⟩ := hrel
    replace hall := Aside.mk hall
    by_cases hlt : j < t.length
    · have c0 : wr.cell? ⟨pb, 1 + j, none⟩ = some (.string t[j]) := (blk_cell hW.p (1 + j)).trans (hcj.out j hlt)
      obtain rfl := hA1.out (by omega)
      have HC := refNumber_any t[j] wr
      have htk := Aside.mk (List.take_succ_eq_append_getElem hlt)
      have hlen : ((t.take j).map fun x => number x.data.toList).length = j := by rw [List.length_map, List.length_take]; omega
      generalize hnum : number t[j].data.toList = nn at HC
      replace hnum := Aside.mk hnum
      replace HC := Aside.mk HC
      by_cases hok : 1 ≤ nn
      · replace hW := Aside.mk hW
        have hno : ¬ nn < 1 := by omega
        go_upto_region 9 with (go_at_call 44; refine HC.out.mono ?_; rintro e w5 ⟨rfl, hb⟩; replace hb := Aside.mk hb)
        have hW5 := hW.out.below hb.out
        obtain ⟨va, vc, rfl⟩ := owns_form hW5.o
        have hA6 : Below w5.heap.size w5 (w5.alloc (.cells #[.int .i64 nn] 3)) := (Gr.alloc _ _).below
        have hW6 := hW5.below hA6
        have m0 := (blk_cell hW5.m 1).trans rfl
        have hcn := Aside.mk (cells_new w5 [.int .i64 nn] 3 rfl)
        have hown := hW6.o
        have hz6 := hW6.low.size
        unfold IdOwn at hown
        rw [hlen] at hown m0 hW6
        have hlen' := Aside.mk hlen
        replace hW6 := Aside.mk hW6
        clear hW5 hb hlen hA6 c0 HC hW
        go_wp2_with (at_builtin; refine wpList_append_own _ rfl _ _ 22 rfl w.heap.size 3 i0 (.int .i64 0) 1 8 Tryd.underlying22 hi0.out hz0.out hz1.out hz2.out rfl (by decide) _ _ _ rfl hown ⟨w5.heap.size, 0, none⟩ 1 1 [.int .i64 nn] rfl rfl hcn.out (by simp [Value.oneCell']) (by omega) (by omega) hz6 ?_; intro v7 w7 hown7 hgr7 _; obtain ⟨va7, vc7, e7⟩ := owns_form hown7; subst e7; have hm7 := hW6.out.far hgr7; have f0 := (blk_cell hm7 1).trans rfl; have f1 := blk_frozen hm7 1; clear hm7; replace hown7 := Aside.mk hown7; replace hgr7 := Aside.mk hgr7)
        go_roundw
        case rel =>
          refine ⟨j + 1, _, by go_num, by omega, fun q hq h => ?_, hW6.out.next hgr7.out ?_ n3 n1.out n2.out⟩
          · by_cases e : q = j
            · subst e; rw [hnum.out]; exact hok
            · exact hall.out q hq (by omega)
          · unfold IdOwn
            rw [htk.out, List.map_append, List.length_append, List.map_append, hlen'.out]
            simp only [List.map_cons, List.map_nil, hnum.out]
            exact hown7.out
        case measure => simp [intOf]; omega
      · have hno := Aside.mk (fun (m : M) (h : textM m = (s, 0)) => hok (by rw [← hnum.out]; exact (hyes.out m h).1 t[j] (List.getElem_mem hlt)))
        have hlt1 : nn < 1 := by omega
        replace hW := Aside.mk hW
        clear hok hlen
        go_upto_region 8 with (go_at_call 44; refine HC.out.mono ?_; rintro e w5 ⟨rfl, hb⟩; replace hb := Aside.mk hb)
        have hW5 := hW.out.below hb.out
        have z0 := (blk_cell hW5.z 0).trans rfl
        have z1 := (blk_cell hW5.z 1).trans rfl
        have z2 := blk_frozen hW5.z 0
        have z3 := blk_frozen hW5.z 1
        have hzz := Aside.mk hW5.z
        have hlow := Aside.mk hW5.low
        have hbs := build31n w5
        clear hW5 hb hW HC
        go_wp2_with fail
        have hput := blk_set (blk_set hzz.out 0 (.string ⟨#[]⟩)) 1 (.slice none 0 0)
        have r0 := (blk_cell hput 0).trans (show _ = some (Value.string ⟨#[]⟩) from rfl)
        have r1 := (blk_cell hput 1).trans (show _ = some (Value.slice none 0 0) from rfl)
        refine bodyPost_ret (v := .tuple #[.agg #[.string ⟨#[]⟩, .slice none 0 0], .bool false]) (by simp [results, Tryd.results25, go_sem, r0, r1]) rfl ?_
        rw [← hPP.out]
        exact ⟨(hlow.out.setCell (p := ⟨rb, 0, none⟩) n4 _).setCell (p := ⟨rb, 1, none⟩) n4 _, .inr ⟨fun m h => hno.out m h, _, _, _, _, rfl⟩⟩
    · obtain rfl : j = t.length := by omega
      rw [List.take_length] at hW
      obtain ⟨va, vc, rfl⟩ := owns_form hW.o
      have m0 := (blk_cell hW.m 0).trans rfl
      have m1 := (blk_cell hW.m 1).trans rfl
      have hlm : (t.map fun x => number x.data.toList).length = t.length := by simp
      rw [hlm] at hW m1
      clear hlm
      have z0 := (blk_cell hW.z 0).trans rfl
      have z1 := (blk_cell hW.z 1).trans rfl
      have z2 := blk_frozen hW.z 0
      have z3 := blk_frozen hW.z 1
      have hrall : ∀ x ∈ t, 1 ≤ number x.data.toList := fun x hx => by
        obtain ⟨q, hq, rfl⟩ := List.getElem_of_mem hx
        exact hall.out q hq hq
      have hres := Aside.mk (fun (h : rightName r = true) => hof.out hrall h)
      have hwr := Aside.mk (fun (h : rightName r = false) (m : M) (hm : textM m = (s, 0)) => show False by
        have := (hyes.out m hm).2.2
        rw [h] at this
        cases this)
      have HC := Aside.mk (fun W => rright_walk r (by omega) W)
      generalize hP : rightName r = P at HC hres hwr
      replace hP := Aside.mk hP
      replace hW := Aside.mk hW
      have hne1 : ¬ mb = rb := fun e => n1.out e.symm
      have hne2 : ¬ rb = mb := n1.out
      clear hrall
      go_upto_region 11 with fail
      have hbw : ∀ W', Gr wr.drew W' → Below wr.heap.size wr W' := fun W' h => (Gr.trans _ _ _ (Gr.drew wr) h).below
      have s0 : ∀ W', Gr wr.drew W' → W'.cell? ⟨mb, 0, none⟩ = some (.string r) := fun W' h => ((hbw W' h).cell (p := ⟨mb, 0, none⟩) (blk_lt hW.out.m)).trans m0
      have s1 : ∀ W', Gr wr.drew W' → W'.cell? ⟨mb, 1, none⟩ = some (.slice va t.length vc) := fun W' h => ((hbw W' h).cell (p := ⟨mb, 1, none⟩) (blk_lt hW.out.m)).trans m1
      have k39 : Aside (∀ W', Gr wr.drew W' → Calls Tryd.prog 39 #[.string r] W' fun e W2 => ∃ u, e = .returned u ∧ Gr W' W2 ∧ u = .bool P) := ⟨fun W' _ => (HC.out W').mono fun e W2 ⟨h1, h2⟩ => ⟨_, h1, by rw [← h2]; exact Gr.refl _, rfl⟩⟩
      clear m0 m1 z0 z1 z2 z3 HC
      refine XReg.wp_region_tail 4 Gr Gr.refl Gr.trans (by kernel_rfl) (by kernel_rfl) (by kernel_rfl) [(2, .det (.pointer (some ⟨rb, 0, none⟩))), (5, .det (.pointer (some ⟨mb, 0, none⟩)))] (XReg.base_cons rfl (XReg.base_cons rfl XReg.base_nil)) ?_
      simp only [List.take_succ_cons, List.take_zero, List.drop_succ_cons, List.drop_zero]
      repeat (first
        | (refine XReg.walk_move Gr.refl rfl rfl _ rfl (by kernel_rfl) (by kernel_rfl) ?_)
        | (refine XReg.walk_calld k39.out rfl (by kernel_rfl) (by kernel_rfl) _ rfl (by kernel_rfl) (by kernel_rfl) ?_)
        | (refine XReg.run_1 Gr.refl rfl rfl _ rfl (by kernel_rfl) (by kernel_rfl) ?_; apply Exists.intro; refine ⟨fun ρ W hE h1 => ?_, ?_⟩; (go_simp; try rfl)))
      intro ρ w5 hE _
      replace hE := hbw _ hE
      have hW5 := hW.out.below hE
      simp only [Act.put, List.setIfInBounds_toArray, List.set_cons_zero, List.set_cons_succ]
      clear hbw s0 s1 k39 hE hW
      have z0 := (blk_cell hW5.z 0).trans rfl
      have z1 := (blk_cell hW5.z 1).trans rfl
      have z2 := blk_frozen hW5.z 0
      have z3 := blk_frozen hW5.z 1
      have hzz := Aside.mk hW5.z
      have hlow := Aside.mk hW5.low
      have hio := Aside.mk hW5.o
      clear hW5
      go_wp2_with fail
      have hput := blk_set (blk_set hzz.out 0 (.string r)) 1 (.slice va t.length vc)
      have r0 := (blk_cell hput 0).trans (show _ = some (Value.string r) from rfl)
      have r1 := (blk_cell hput 1).trans (show _ = some (Value.slice va t.length vc) from rfl)
      have hne : ∀ b, (Value.slice va t.length vc).ownBlock = some b → b ≠ rb := fun b hb e => by
        obtain ⟨c2, k2⟩ := own_typed hio.out b hb
        rw [e, hzz.out] at k2
        cases k2
      have hid : IdOwn ((w5.setCell ⟨rb, 0, none⟩ (.string r)).setCell ⟨rb, 1, none⟩ (.slice va t.length vc)) w.heap.size (.slice va t.length vc) (t.map fun x => number x.data.toList) := owns_move hio.out fun b _ _ hb => (Below.heap_setCell _ _ _ _ (hne b hb)).trans (Below.heap_setCell _ _ _ _ (hne b hb))
      refine bodyPost_ret (v := .tuple #[.agg #[.string r, .slice va t.length vc], .bool P]) (by simp [results, Tryd.results25, go_sem, r0, r1]) rfl ?_
      rw [← hPP.out]
      refine ⟨(hlow.out.setCell (p := ⟨rb, 0, none⟩) n4 _).setCell (p := ⟨rb, 1, none⟩) n4 _, ?_⟩
      cases P
      · exact .inr ⟨fun m h => hwr.out rfl m h, _, _, _, _, rfl⟩
      · exact .inl ⟨(r, t.map fun x => number x.data.toList), _, hres.out rfl, rfl, hid.at_⟩
end
end Go.Proofs.YtmhpogajklihdaaDoor.C
