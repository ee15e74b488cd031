/- slices.Values, slices.AppendSeq and slices.Collect at triples: the calls. -/
import Derived.Test.YtfgnpplnjgjjkaaDoorSIter
namespace Go.Proofs.YtfgnpplnjgjjkaaDoor.T
open Go.RowKit Go.Shelf Go.Lib Go.Proofs.YtfgnpplnjgjjkaaDoorW.PrintWords Go.Proofs.YtfgnpplnjgjjkaaDoor.K

attribute [local go_sem] Oper.semAt_some

theorem values_fn (A : Option Addr) (len cap : Nat) (w : World) : Calls Tryd.prog 48 #[.slice A len cap] w fun e w' => e = .returned (.func (.func 56) #[] #[.pointer (some ⟨w.heap.size, 0, none⟩)]) ∧ w' = w.alloc (.cells #[.slice A len cap] 27) := by
  go_enter Tryd.func48, Tryd.ntmps48
  go_wp2
  go_ret
  exact ⟨rfl, rfl⟩

theorem values_stops (n : Nat) (hn : 1 ≤ n) (Bs n₀ : Nat) (A : Option Addr) (cap : Nat) (zs : List Tr) (w : World) (hBs : Bs < w.heap.size) (hn₀ : n₀ ≤ w.heap.size)
    (hc : w.cell? ⟨Bs, 0, none⟩ = some (.slice A zs.length cap)) (hI : RT n₀ w (.slice A zs.length cap) zs) :
    SeqStopsK Fence.wide n Tryd.prog 56 #[.pointer (some ⟨Bs, 0, none⟩)] (fun x : Tr => #[ag3 x]) (Below n₀) (fun ys => ys = zs) (fun pre => pre <+: zs) zs.length w := fun l J Jx W hW hJ _ hY h0 =>
  values1_in n hn l Bs n₀ A cap zs J Jx hY W (Nat.le_trans hn₀ hW.size) hJ ((hW.cell (p := ⟨Bs, 0, none⟩) hBs).trans hc) (hI.below (hW.mono hn₀)) h0

theorem cells_at3 (W : World) (x : Tr) : ∀ j u, (cs3 x)[j]? = some u → (W.alloc (.cells #[.int .i64 x.1, .int .i64 x.2.1, .int .i64 x.2.2] 23)).cell? ((⟨W.heap.size, 0, none⟩ : Addr).add j) = some u := fun j u hj => by
  have e : (⟨W.heap.size, 0, none⟩ : Addr).add j = ⟨W.heap.size, j, none⟩ := by
    unfold Addr.add
    split
    · rename_i e; subst e; rfl
    · simp
  rw [e, blk_cell (blk_new W _) j, ← hj]
  show (cs3 x).toArray[j]? = _
  simp
theorem info23 : (Tryd.prog.info? 23).map (fun i => (i.zero, i.size, i.bytes)) = some (some (.agg #[.int .i64 0, .int .i64 0, .int .i64 0]), 3, 24) := by kernel_rfl

/-- What stands ahead of each round: the box, and what has been collected. -/
def AI (w : World) (Bs : Nat) (pre : List Tr) (W : World) : Prop := (∃ v, Boxed W Bs 27 v ∧ W.ownsRow w.heap.size 23 3 v pre.length (csT pre)) ∧ Below w.heap.size w W
theorem ai_own (w : World) (Bs B : Nat) (hB : w.heap.size ≤ B) : OwnFrom B (AI w Bs) := fun pre W W' r h hg hr => by
  obtain ⟨⟨v, hb, ho⟩, hlow⟩ := h
  refine ⟨⟨v, hb.kept hg (fun e => ?_), ?_⟩, hlow.grown hg hlow.size (fun j e => Nat.le_trans hB (hr j e).1)⟩
  · obtain ⟨_, o, ho, hc⟩ := hr Bs e.symm
    rw [show W.heap[Bs]? = _ from hb] at ho; cases ho; cases hc
  · refine ⟨ho.1, ?_⟩
    rcases ho.2 with h2 | ⟨g, cap, cur, rfl, hb, hh, q⟩
    · exact .inl h2
    · refine .inr ⟨g, cap, cur, rfl, hb, (hg.block g (Array.getElem?_eq_some_iff.1 hh).1 (fun e => ?_)).trans hh, q⟩
      obtain ⟨_, o, ho, hc⟩ := hr g e.symm
      rw [hh] at ho; cases ho; cases hc
/-- The round's own variable. -/
def AX (B : Nat) (fv : Value) (Bs : Nat) (x : Tr) (a' : Act) (W : World) : Prop := ∃ Bx, B ≤ Bx ∧ W.heap[Bx]? = some (.cells #[.int .i64 x.1, .int .i64 x.2.1, .int .i64 x.2.2] 23 (0, 0)) ∧
  a' = { tmps := #[.slice none 0 0, fv, .pointer (some ⟨Bs, 0, none⟩), undef, .slice none 0 0, .pointer (some ⟨Bx, 0, none⟩), fv, ag3 x, undef, undef, undef, undef, undef], defers := [] }
theorem ax_own (B : Nat) (fv : Value) (Bs : Nat) (x : Tr) (a' : Act) : OwnFrom B (fun (_ : Unit) W => AX B fv Bs x a' W) := fun _ W W' r h hg hr => by
  obtain ⟨Bx, h1, h2, h3⟩ := h
  refine ⟨Bx, h1, (hg.block Bx (Array.getElem?_eq_some_iff.1 h2).1 (fun e => ?_)).trans h2, h3⟩
  obtain ⟨_, o, ho, hc⟩ := hr Bx e.symm
  rw [h2] at ho; cases ho; cases hc

set_option maxRecDepth 100000 in
set_option maxHeartbeats 4000000 in
theorem append_seq (Bf : Nat) (A : Option Addr) (cap : Nat) (zs : List Tr) (hz : zs.length ≤ 1000) (w : World) (hBf : Bf < w.heap.size) (hc : w.cell? ⟨Bf, 0, none⟩ = some (.slice A zs.length cap)) (hI : RT w.heap.size w (.slice A zs.length cap) zs) :
    Calls Tryd.prog 66 #[.slice none 0 0, .func (.func 56) #[] #[.pointer (some ⟨Bf, 0, none⟩)]] w fun e w' => ∃ v, e = .returned v ∧ w'.ownsRow w.heap.size 23 3 v zs.length (csT zs) ∧ Below w.heap.size w w' := by
  obtain ⟨i0, hi, hz0, hz1, hz2⟩ := info_parts info23
  replace hi := Aside0.mk hi
  replace hz0 := Aside0.mk hz0
  replace hz1 := Aside0.mk hz1
  replace hz2 := Aside0.mk hz2
  have hmax : 1000000 ≤ maxLen := by decide
  have hro : Fence.wide.round = none := rfl
  refine (callsIn_wide (n := 9)).1 (callsIn_of_wp_marks Tryd.func66 rfl trivial ?_ hro)
  simp only [Tryd.ntmps66, List.size_toArray, List.length_cons, List.length_nil, Nat.reduceAdd, Nat.reduceSub, Array.replicate_succ, Array.replicate_zero, List.push_toArray, List.append_toArray, List.nil_append, List.cons_append]
  gi_wp2
  have bS := Boxed.new w 27 (.slice none 0 0)
  have hB0 : Below w.heap.size w (w.alloc (.cells #[.slice none 0 0] 27)) := (Below.refl _ w).alloc (Nat.le_refl _) _
  refine wpIn_rangeFunc_ownH hro (by decide) (gf := 56) (lb := #[.pointer (some ⟨Bf, 0, none⟩)]) rfl trivial (enters_of Tryd.func56 (by kernel_rfl) rfl)
    (values_stops 8 (by decide) Bf w.heap.size A cap zs (w.alloc (.cells #[.slice none 0 0] 27)) (by simp; omega) (by simp) ((hB0.cell (p := ⟨Bf, 0, none⟩) hBf).trans hc) (hI.below hB0)) belowK_t (belowK_b (by simp)) (Below.refl _ _) (fun _ => rfl)
    (AI w w.heap.size) (fun _ _ _ => False) (ai_own w _ _ (by simp)) (fun _ _ _ _ _ hs _ _ => hs)
    ⟨⟨_, bS, World.ownsRow_nil _ _ _ _⟩, hB0⟩
    (AX (w.heap.size + 1) (.func (.func 56) #[] #[.pointer (some ⟨Bf, 0, none⟩)]) w.heap.size) (fun x a' => by
      have e : (w.alloc (.cells #[.slice none 0 0] 27)).heap.size = w.heap.size + 1 := by simp
      rw [e]
      exact ax_own _ _ _ _ _) ?assign ?body ?done ?stop
  case assign =>
    rintro l pre x W K hi2 hK
    have hsz := hi2.2.size
    gi_wp2
    refine hK _ _ ((KeepsOthers.alloc _ _).from _) ((Below.refl _ W).alloc hsz _) ((ai_own w w.heap.size (w.heap.size) (Nat.le_refl _)).alloc _ hi2) ⟨W.heap.size, ?_, blk_new W _, rfl⟩
    obtain ⟨⟨_, hb, _⟩, _⟩ := hi2
    have := hb.lt
    omega
  case body =>
    rintro l pre x a' W hl ⟨r, hr⟩ ⟨⟨v, hv, hrow⟩, hB⟩ ⟨Bx, hBx, bX, rfl⟩ hlt
    have x0 := (blk_cell bX 0).trans (show _ = some (Value.int .i64 x.1) from rfl)
    have x1 := (blk_cell bX 1).trans (show _ = some (Value.int .i64 x.2.1) from rfl)
    have x2 := (blk_cell bX 2).trans (show _ = some (Value.int .i64 x.2.2) from rfl)
    obtain ⟨va, vc, rfl⟩ : ∃ a c, v = .slice a pre.length c := by
      rcases hrow.2 with ⟨rfl, h0⟩ | ⟨g, cap, cur, rfl, _⟩
      · exact ⟨_, _, by rw [h0]⟩
      · exact ⟨_, _, rfl⟩
    have hvc := hv.cell
    have hcn := Aside0.mk (cells_at3 W x)
    have hsz := hB.size
    replace hB := Aside0.mk hB
    gi_wp2_with (gi_at_builtin; refine wpListIn_append_own _ rfl _ _ 27 rfl w.heap.size 23 i0 (.agg #[.int .i64 0, .int .i64 0, .int .i64 0]) 3 24 Tryd.underlying27 hi.out hz0.out hz1.out hz2.out rfl (by decide) _ _ _ rfl (hrow.alloc _) ⟨W.heap.size, 0, none⟩ 1 1 (cs3 x) rfl rfl hcn.out (by simp [Value.oneCell']) (by omega) (by omega) (by have := hB.out.size; simp; omega) ?_; intro v' w1 hown' hgrow _; obtain ⟨g', cap', rfl⟩ := ownsRow_succ hown'; obtain ⟨hv1, hv2, hr2, hk2, hb2⟩ := hv.appended (by decide) hrow hB.out.size (Nat.le_refl _) hown' hgrow; have hc1 := hv1.cell; have hf1 := hv1.frozen)
    exact ⟨hk2.from _, hb2, ⟨_, hv2, by rw [List.length_append, csT_append]; exact hr2⟩, hB.out.trans hb2⟩
  case done =>
    rintro D ys W hD rfl ⟨⟨v, hv, hrow⟩, hB⟩ hK
    obtain ⟨va, vc, rfl⟩ : ∃ a c, v = .slice a ys.length c := by
      rcases hrow.2 with ⟨rfl, h0⟩ | ⟨g, cap, cur, rfl, _⟩
      · exact ⟨_, _, by rw [h0]⟩
      · exact ⟨_, _, rfl⟩
    have hvc := hv.cell
    gi_wp2
    refine ⟨by simp, .inl ⟨_, _, rfl, run_takeDeferred hK, ?_⟩⟩
    exact ⟨_, results_tmp rfl _ _ _, _, rfl, ownsRow_putObj hrow _ hK rfl, hB.trans (belowK_b (w := w) (Nat.le_refl _) W D _ _ (by simp at hD; omega) hK rfl rfl)⟩
  case stop =>
    rintro D c pre W _ _ h _
    exact h.elim
end Go.Proofs.YtfgnpplnjgjjkaaDoor.T
