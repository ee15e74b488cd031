/- 'All' of package list at strings as an iterator; 'Owners' of package block at (string, int). -/
import Derived.Test.YtnncomhgclffaaaBFun
namespace Go.Proofs.Ytnncomhgclffaaa.BI
open Go.RowKit Go.Shelf Go.Proofs.YtnncomhgclffaaaW.PrintWords Go.Proofs.YtnncomhgclffaaaL Go.Proofs.Ytnncomhgclffaaa.LL Go.Proofs.Ytnncomhgclffaaa.LS
attribute [local go_sem] Oper.semAt_some

theorem boxed_below {w W : World} {B : Nat} {t : TypeId} {v : Value} (h : Boxed w B t v) (hb : Below w.heap.size w W) : Boxed W B t v := (hb.block B h.lt).trans h

theorem all_stops (n : Nat) (hn : 1 ≤ n) (Bn lb : Nat) (Fl : Nat → Prop) (row : List Int) (vals : List ByteArray) (hl : vals.length < 100000) (w : World) (hBn : Boxed w Bn 69 (.pointer (some ⟨lb, 0, none⟩))) (hL : Lst w lb Fl row vals) :
    SeqStopsK Fence.wide n Try.prog 111 #[.pointer (some ⟨Bn, 0, none⟩)] (fun x : Int × ByteArray => #[.int .i64 x.1, .string x.2]) (Kp Fl Bn lb) (fun ys => ys = prs vals row) (fun pre => pre <+: prs vals row) row.length w := fun l J Jx W hW _ _ hY h0 =>
  all1_in n hn l Bn lb Fl row vals hl J Jx (fun pre x W hJ _ => hY pre x W hJ) W (boxed_below hBn hW) (hL.below hW) h0

/-- The same, with each pair known to be of the list. -/
theorem all_stops_mem (n : Nat) (hn : 1 ≤ n) (Bn lb : Nat) (Fl : Nat → Prop) (row : List Int) (vals : List ByteArray) (hl : vals.length < 100000) (w : World) (hBn : Boxed w Bn 69 (.pointer (some ⟨lb, 0, none⟩))) (hL : Lst w lb Fl row vals) :
    SeqStopsK Fence.wide n Try.prog 111 #[.pointer (some ⟨Bn, 0, none⟩)] (fun x : {x : Int × ByteArray // x ∈ prs vals row} => #[.int .i64 x.1.1, .string x.1.2]) (Kp Fl Bn lb) (fun ys => ys.map (·.1) = prs vals row) (fun _ => True) row.length w := fun l J Jx W hW _ _ hY h0 => by
  refine (all1_in n hn l Bn lb Fl row vals hl (fun ys W => ∃ zs : List {x : Int × ByteArray // x ∈ prs vals row}, zs.map (·.1) = ys ∧ J zs W) (fun ys W => ∃ zs : List {x : Int × ByteArray // x ∈ prs vals row}, zs.map (·.1) = ys ∧ Jx zs W) ?_ W (boxed_below hBn hW) (hL.below hW) ⟨[], rfl, h0⟩).mono ?_
  · rintro pre x W ⟨zs, hz, hJ⟩ hx hlt
    obtain ⟨fn, tmps, assign, body, hy, hR⟩ := hY zs ⟨x, hx⟩ W hJ (by rw [← List.length_map (·.1), hz]; exact hlt)
    refine ⟨fn, tmps, assign, body, hy, hR.mono ?_⟩
    rintro e W' (⟨he, hJ', hk⟩ | ⟨he, hJ'⟩)
    · exact .inl ⟨he, ⟨_, by rw [List.map_append, hz]; rfl, hJ'⟩, hk⟩
    · exact .inr ⟨he, _, by rw [List.map_append, hz]; rfl, hJ'⟩
  · rintro e W' ⟨hv, h⟩
    refine ⟨hv, ?_⟩
    rcases h with ⟨ys, hy, zs, hz, hJ⟩ | ⟨pre, _, zs, _, hJ⟩
    · exact .inl ⟨zs, hz.trans hy, hJ⟩
    · exact .inr ⟨zs, trivial, hJ⟩

theorem all_in (n lb : Nat) (w : World) :
    CallsIn Fence.wide n Try.prog 105 #[.pointer (some ⟨lb, 0, none⟩)] w fun e w' => e = .returned (.func (.func 111) #[] #[.pointer (some ⟨w.heap.size, 0, none⟩)]) ∧ w' = w.alloc (.cells #[.pointer (some ⟨lb, 0, none⟩)] 69) := by
  refine callsIn_of_wp Try.func105 rfl trivial ?_ rfl
  simp only [Try.ntmps105, List.size_toArray, List.length_cons, List.length_nil, Nat.reduceAdd, Nat.reduceSub, Array.replicate_succ, Array.replicate_zero, List.push_toArray, List.append_toArray, List.nil_append, List.cons_append]
  gi_wp2
  go_ret
  exact ⟨rfl, rfl⟩

theorem info9 : (Try.prog.info? 9).map (fun i => (i.zero, i.size, i.bytes)) = some (some (.string ⟨#[]⟩), 1, 16) := by kernel_rfl
theorem own_boxed {B : Nat} {t : TypeId} {v : Value} : Own (fun (_ : List (Int × ByteArray)) W => Boxed W B t v) := by
  rintro s X Y row hv hg hrow
  refine hv.kept hg (fun e' => ?_)
  obtain ⟨o, ho, hc⟩ := hrow B e'.symm
  rw [show X.heap[B]? = _ from hv] at ho; cases ho; cases hc

/-- The values of what has come. -/
def ofs (pre : List (Int × ByteArray)) : List Value := pre.map fun x => .string x.2

/-- A box stays while another's row is appended to. -/
theorem boxed_far {W w1 : World} {n₀ B C : Nat} {t e : TypeId} {size k : Nat} {u v : Value} {xs : List Value} {tmp : Obj}
    (hu : Boxed W B t u) (hte : t ≠ e) (hrow : W.ownsRow n₀ e size v k xs) (hgrow : (W.alloc tmp).grownBy w1 v.ownBlock) (hne : B ≠ C) (v' : Value) : Boxed (w1.setCell ⟨C, 0, none⟩ v') B t u :=
  (Below.heap_setCell _ _ _ _ hne).trans ((hu.alloc tmp).kept hgrow (hu.not_row hte hrow))

theorem prs_vals {w : World} {bb lb mb : Nat} {Fl : Nat → Prop} {hd : ByteArray → Int} {gb : ByteArray → Nat} {ks : List ByteArray} {vs : ByteArray → List Int} {vals : List ByteArray}
    (h : BIs w bb lb mb Fl hd gb ks vs vals) : ofs (prs vals (ks.map hd)) = ks.map Value.string := by
  unfold ofs prs
  rw [List.map_map, List.map_map]
  exact List.map_congr_left fun k hk => by simp [h.val k hk]

set_option maxRecDepth 100000 in
set_option maxHeartbeats 2000000 in
theorem owners_in (n : Nat) (hn : 3 ≤ n) {w : World} {bb lb mb : Nat} {Fl : Nat → Prop} {hd : ByteArray → Int} {gb : ByteArray → Nat} {ks : List ByteArray} {vs : ByteArray → List Int} {vals : List ByteArray}
    (h : BIs w bb lb mb Fl hd gb ks vs vals) (hl : vals.length < 100000) (hk : ks.length < 100000) :
    CallsIn Fence.wide n Try.prog 87 #[.pointer (some ⟨bb, 0, none⟩)] w fun e W' => ∃ v, e = .returned v ∧ W'.ownsRow w.heap.size 9 1 v ks.length (ks.map Value.string) ∧ Below w.heap.size w W' := by
  have h1 : 1 ≤ n := by omega
  have hro : Fence.wide.round = none := rfl
  obtain ⟨i0, hi, hz0, hz1, hz2⟩ := info_parts info9
  have hc0 := h.c0
  have hblt := blk_lt h.head
  refine callsIn_of_wp_marks Try.func87 rfl trivial ?_ hro
  simp only [Try.ntmps87, List.size_toArray, List.length_cons, List.length_nil, Nat.reduceAdd, Nat.reduceSub, Array.replicate_succ, Array.replicate_zero, List.push_toArray, List.append_toArray, List.nil_append, List.cons_append]
  gi_wp2_with (refine ⟨trivial, ?_⟩; gi_at_call 105; refine (all_in (n - 1) lb _).mono ?_; rintro e w' ⟨rfl, rfl⟩)
  have bO := Boxed.new w 41 (.slice none 0 0)
  have bN := Boxed.new (w.alloc (.cells #[.slice none 0 0] 41)) 69 (.pointer (some ⟨lb, 0, none⟩))
  rw [World.size_alloc] at bN
  have hB0 : Below w.heap.size w ((w.alloc (.cells #[.slice none 0 0] 41)).alloc (.cells #[.pointer (some ⟨lb, 0, none⟩)] 69)) := ((Below.refl _ w).alloc (Nat.le_refl _) _).alloc (by simp) _
  have hL : Lst ((w.alloc (.cells #[.slice none 0 0] 41)).alloc (.cells #[.pointer (some ⟨lb, 0, none⟩)] 69)) lb (fun b => Fl b ∧ b < w.heap.size) (ks.map hd) vals := h.lst.bound.below hB0
  have hKs := prs_vals h
  clear h
  refine wpIn_rangeFunc_ownG hro h1 (gf := 111) (lb := #[.pointer (some ⟨w.heap.size + 1, 0, none⟩)]) rfl trivial (enters_of Try.func111 (by kernel_rfl) rfl)
    (all_stops (n - 1) (by omega) (w.heap.size + 1) lb _ _ vals hl _ bN hL) Kp.t (fun W l o o' hl' => Kp.b (fun b hb => by have := hb.2; simp; omega) W l o o' hl') (Below.refl _ _) (fun _ => rfl)
    (fun pre W => (∃ v, Boxed W w.heap.size 41 v ∧ W.ownsRow w.heap.size 9 1 v pre.length (ofs pre) ∧ True) ∧ Boxed W (w.heap.size + 1) 69 (.pointer (some ⟨lb, 0, none⟩)) ∧ Below w.heap.size w W)
    (fun _ _ _ => False)
    (OwnFrom.and (Own.from (holdsRow_own w.heap.size w.heap.size 41 9 1 (fun pre => pre.length) ofs (fun _ _ => True)) _) (OwnFrom.and (own_boxed.from _) (ownFrom_below (Nat.le_refl _) (by simp; omega))))
    (fun _ _ _ _ _ hs _ _ => hs)
    ⟨⟨_, bO.alloc _, World.ownsRow_nil _ _ _ _, trivial⟩, bN, hB0⟩
    (fun x => { tmps := #[.pointer (some ⟨bb, 0, none⟩), undef, .slice none 0 0, .pointer (some ⟨w.heap.size, 0, none⟩), undef, .string x.2, .pointer (some ⟨bb, 0, none⟩), .pointer (some ⟨bb, 0, none⟩), .pointer (some ⟨bb, 0, none⟩), .pointer (some ⟨lb, 0, none⟩), .func (.func 111) #[] #[.pointer (some ⟨w.heap.size + 1, 0, none⟩)], .int .i64 x.1, .string x.2, undef, undef, undef, undef, undef], defers := [] }) ?assign ?body ?done ?stop
  case assign =>
    intro l x W K hK
    gi_wp2
    exact hK
  case body =>
    rintro l pre x W ⟨⟨v, hv, hrow, _⟩, hbx, hB⟩ hlt
    have hc := hv.cell
    rw [List.length_map] at hlt
    have hmax : 100000 ≤ maxLen := by decide
    gi_wp2_with (gi_at_builtin; refine wpListIn_append_own _ rfl _ _ 41 rfl w.heap.size 9 i0 (.string ⟨#[]⟩) 1 16 Try.underlying41 hi hz0 hz1 hz2 rfl (by decide) _ _ _ rfl (hrow.alloc _) ⟨W.heap.size, 0, none⟩ 1 1 [.string x.2] rfl rfl (cell_one_new _ _ _) (by simp [Value.oneCell']) (by omega) (by omega) (by have := hB.size; simp; omega) ?_; intro v' w1 hown' hgrow _; obtain ⟨g', cap', rfl⟩ := ownsRow_succ hown'; obtain ⟨hv1, hv2, hr2, hk2, hb2⟩ := hv.appended (by decide) hrow hB.size (Nat.le_refl _) hown' hgrow; have hc1 := hv1.cell; have hf1 := hv1.frozen; have hbx1 := boxed_far (C := w.heap.size) hbx (by decide) hrow hgrow (by omega) (Value.slice (some ⟨g', 0, none⟩) (pre.length + 1) cap'))
    exact ⟨hk2.from _, ⟨fun b hb => hb2.block b hb.2, fun _ => hbx1⟩, ⟨_, hv2, by simpa [ofs] using hr2, trivial⟩, hbx1, hB.trans hb2⟩
  case done =>
    rintro D ys W hD rfl ⟨⟨v, hv, hrow, _⟩, hbx, hB⟩ hK
    have hc := hv.cell
    gi_wp2
    refine ⟨by simp, .inl ⟨_, _, rfl, run_takeDeferred hK, ?_⟩⟩
    rw [prs_len, List.length_map, hKs] at hrow
    exact ⟨_, results_tmp rfl _ _ _, v, rfl, ownsRow_putObj hrow _ hK rfl, hB.trans (belowK_b (w := w) (Nat.le_refl _) W D _ _ (by simp at hD; omega) hK rfl rfl)⟩
  case stop =>
    rintro D c pre W _ _ h _
    exact h.elim
end Go.Proofs.Ytnncomhgclffaaa.BI
