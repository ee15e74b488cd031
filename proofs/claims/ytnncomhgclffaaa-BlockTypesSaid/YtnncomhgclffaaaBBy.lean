/- 'By' of package block at (string, int). -/
import Derived.Test.YtnncomhgclffaaaBOwn
import Derived.RegionIn
namespace Go.Proofs.Ytnncomhgclffaaa.BI
open Go.RowKit Go.Shelf Go.Proofs.YtnncomhgclffaaaW.PrintWords Go.Proofs.YtnncomhgclffaaaL Go.Proofs.Ytnncomhgclffaaa.LL Go.Proofs.Ytnncomhgclffaaa.LS
attribute [local go_sem] Oper.semAt_some
attribute [local go_sem] field176

section
variable {w W : World} {bb lb mb : Nat} {Fl : Nat → Prop} {hd : ByteArray → Int} {gb : ByteArray → Nat} {ks : List ByteArray} {vs : ByteArray → List Int} {vals : List ByteArray}
theorem BIs.good (h : BIs w bb lb mb Fl hd gb ks vs vals) {k : ByteArray} (hk : k ∈ ks) : k.size ≤ maxLen := by
  obtain ⟨es, clock, _, _, _, _, h2⟩ := h.own
  exact (h2 k _ (if_pos hk)).1
theorem BIs.mem_prs (h : BIs w bb lb mb Fl hd gb ks vs vals) {x : Int × ByteArray} (hx : x ∈ prs vals (ks.map hd)) : x.2 ∈ ks := by
  unfold prs at hx
  rw [List.map_map] at hx
  obtain ⟨k, hk, rfl⟩ := List.mem_map.1 hx
  show vOf vals (hd k) ∈ ks
  rw [h.val k hk]
  exact hk

/-- The values of what has come and is blocked. -/
def byOf {S : Int × ByteArray → Prop} (vs : ByteArray → List Int) (v : Int) (pre : List {x : Int × ByteArray // S x}) : List ByteArray := (pre.map (·.1.2)).filter fun k => decide (v ∈ vs k)
theorem byOf_hit {S : Int × ByteArray → Prop} {vs : ByteArray → List Int} {v : Int} (pre : List {x : Int × ByteArray // S x}) {x : {x : Int × ByteArray // S x}} (h : v ∈ vs x.1.2) : byOf vs v (pre ++ [x]) = byOf vs v pre ++ [x.1.2] := by simp [byOf, h]
theorem byOf_miss {S : Int × ByteArray → Prop} {vs : ByteArray → List Int} {v : Int} (pre : List {x : Int × ByteArray // S x}) {x : {x : Int × ByteArray // S x}} (h : v ∉ vs x.1.2) : byOf vs v (pre ++ [x]) = byOf vs v pre := by simp [byOf, h]
theorem byOf_len {S : Int × ByteArray → Prop} {vs : ByteArray → List Int} {v : Int} (pre : List {x : Int × ByteArray // S x}) : (byOf vs v pre).length ≤ pre.length := Nat.le_trans (List.length_filter_le _ _) (by simp)

theorem own_boxed' {β : Type} {B : Nat} {t : TypeId} {v : Value} : Own (fun (_ : β) W => Boxed W B t v) := by
  rintro s X Y row hv hg hrow
  refine hv.kept hg (fun e' => ?_)
  obtain ⟨o, ho, hc⟩ := hrow B e'.symm
  rw [show X.heap[B]? = _ from hv] at ho; cases ho; cases hc

set_option maxRecDepth 100000 in
set_option maxHeartbeats 2000000 in
theorem by_in (n : Nat) (hn : 3 ≤ n) (h : BIs w bb lb mb Fl hd gb ks vs vals) (v : Int) (hv64 : (Lit.int .i64 v).wf = true) (hl : vals.length < 100000) (hk : ks.length < 100000) :
    CallsIn Fence.wide n Try.prog 85 #[.pointer (some ⟨bb, 0, none⟩), .int .i64 v] w fun e W' => ∃ r, e = .returned r ∧ W'.ownsRow w.heap.size 9 1 r (ks.filter fun k => decide (v ∈ vs k)).length ((ks.filter fun k => decide (v ∈ vs k)).map Value.string) ∧ Below w.heap.size w W' := by
  have h1 : 1 ≤ n := by omega
  have hro : Fence.wide.round = none := rfl
  obtain ⟨i0, hi, hz0, hz1, hz2⟩ := info_parts info9
  have hc0 := h.c0
  have hblt := blk_lt h.head
  have hb3 : Below w.heap.size w (((w.alloc (.cells #[.pointer (some ⟨bb, 0, none⟩)] 111)).alloc (.cells #[.int .i64 v] 3)).alloc (.cells #[.slice none 0 0] 41)) := (((Below.refl _ w).alloc (Nat.le_refl _) _).alloc (by simp) _).alloc (by simp; omega) _
  have hc3 := (hb3.cell (p := ⟨bb, 0, none⟩) hblt).trans hc0
  clear hb3
  refine callsIn_of_wp_marks Try.func85 rfl trivial ?_ hro
  simp only [Try.ntmps85, List.size_toArray, List.length_cons, List.length_nil, Nat.reduceAdd, Nat.reduceSub, Array.replicate_succ, Array.replicate_zero, List.push_toArray, List.append_toArray, List.nil_append, List.cons_append]
  gi_wp2_with (refine ⟨trivial, ?_⟩; gi_at_call 105; refine (all_in (n - 1) lb _).mono ?_; rintro e w' ⟨rfl, rfl⟩)
  have b1 := Boxed.new w 111 (.pointer (some ⟨bb, 0, none⟩))
  have b2 := Boxed.new (w.alloc (.cells #[.pointer (some ⟨bb, 0, none⟩)] 111)) 3 (.int .i64 v)
  have bO := Boxed.new ((w.alloc (.cells #[.pointer (some ⟨bb, 0, none⟩)] 111)).alloc (.cells #[.int .i64 v] 3)) 41 (.slice none 0 0)
  have bN := Boxed.new (((w.alloc (.cells #[.pointer (some ⟨bb, 0, none⟩)] 111)).alloc (.cells #[.int .i64 v] 3)).alloc (.cells #[.slice none 0 0] 41)) 69 (.pointer (some ⟨lb, 0, none⟩))
  simp only [World.size_alloc] at b2 bO bN
  have hB0 : Below w.heap.size w ((((w.alloc (.cells #[.pointer (some ⟨bb, 0, none⟩)] 111)).alloc (.cells #[.int .i64 v] 3)).alloc (.cells #[.slice none 0 0] 41)).alloc (.cells #[.pointer (some ⟨lb, 0, none⟩)] 69)) := ((((Below.refl _ w).alloc (Nat.le_refl _) _).alloc (by simp) _).alloc (by simp; omega) _).alloc (by simp; omega) _
  have hL : Lst ((((w.alloc (.cells #[.pointer (some ⟨bb, 0, none⟩)] 111)).alloc (.cells #[.int .i64 v] 3)).alloc (.cells #[.slice none 0 0] 41)).alloc (.cells #[.pointer (some ⟨lb, 0, none⟩)] 69)) lb (fun b => Fl b ∧ b < w.heap.size) (ks.map hd) vals := h.lst.bound.below hB0
  refine wpIn_rangeFunc_ownG hro h1 (gf := 111) (lb := #[.pointer (some ⟨w.heap.size + 1 + 1 + 1, 0, none⟩)]) rfl trivial (enters_of Try.func111 (by kernel_rfl) rfl)
    (all_stops_mem (n - 1) (by omega) (w.heap.size + 1 + 1 + 1) lb _ _ vals hl _ bN hL) Kp.t (fun W l o o' hl' => Kp.b (fun b hb => by have := hb.2; simp; omega) W l o o' hl') (Below.refl _ _) (fun _ => rfl)
    (fun pre W => (∃ r, Boxed W (w.heap.size + 1 + 1) 41 r ∧ W.ownsRow w.heap.size 9 1 r (byOf vs v pre).length ((byOf vs v pre).map Value.string) ∧ True) ∧ (Boxed W w.heap.size 111 (.pointer (some ⟨bb, 0, none⟩)) ∧ Boxed W (w.heap.size + 1) 3 (.int .i64 v)) ∧ Boxed W (w.heap.size + 1 + 1 + 1) 69 (.pointer (some ⟨lb, 0, none⟩)) ∧ Below w.heap.size w W)
    (fun _ _ _ => False)
    (OwnFrom.and (Own.from (holdsRow_own w.heap.size (w.heap.size + 1 + 1) 41 9 1 (fun pre => (byOf vs v pre).length) (fun pre => (byOf vs v pre).map Value.string) (fun _ _ => True)) _) (OwnFrom.and (OwnFrom.and (own_boxed'.from _) (own_boxed'.from _)) (OwnFrom.and (own_boxed'.from _) (ownFrom_below (Nat.le_refl _) (by simp; omega)))))
    (fun _ _ _ _ _ hs _ _ => hs)
    ⟨⟨_, bO.alloc _, World.ownsRow_nil _ _ _ _, trivial⟩, ⟨((b1.alloc _).alloc _).alloc _, (b2.alloc _).alloc _⟩, bN, hB0⟩
    (fun x => { tmps := #[.pointer (some ⟨bb, 0, none⟩), .int .i64 v, .pointer (some ⟨w.heap.size, 0, none⟩), .pointer (some ⟨w.heap.size + 1, 0, none⟩), .slice none 0 0, .pointer (some ⟨w.heap.size + 1 + 1, 0, none⟩), undef, .string x.1.2, .pointer (some ⟨bb, 0, none⟩), .pointer (some ⟨bb, 0, none⟩), .pointer (some ⟨bb, 0, none⟩), .pointer (some ⟨lb, 0, none⟩), .func (.func 111) #[] #[.pointer (some ⟨w.heap.size + 1 + 1 + 1, 0, none⟩)], .int .i64 x.1.1, .string x.1.2, undef, undef, undef, undef, undef, undef, undef, undef, undef, undef, undef, undef, undef, undef, undef], defers := [] }) ?assign ?body ?done ?stop
  case assign =>
    intro l x W K hK
    gi_wp2
    exact hK
  case body =>
    rintro l pre x W ⟨⟨r, hr, hrow, _⟩, ⟨hx1, hx2⟩, hbx, hB⟩ hlt
    have hc := hr.cell
    have hd1 := hx1.cell
    have hd2 := hx2.cell
    rw [List.length_map] at hlt
    have hmax : 100000 ≤ maxLen := by decide
    have g := h.move (W := W) (fun b _ hl => hB.block b hl)
    have hm := h.mem_prs x.2
    have hlk : (Instr.lookup 171 (.map (some mb)) (.string x.1.2) false).run Try.prog W.drew = .ok (.agg #[.int .i64 (hd x.1.2), .map (some (gb x.1.2))]) W.drew := by
      have := (g.move (W := W.drew) (fun _ _ _ => rfl)).look_in (h.good hm) hm false
      simpa only [Bool.false_eq_true, if_false, ownerOf] using this
    have hby := by_look (W := W.drew) ((g.by_ _ hm).of_heap rfl) hv64
    have hc1 := g.c1
    have hpl := byOf_len (vs := vs) (v := v) pre
    clear g
    generalize hiv : (if v ∈ vs x.1.2 then (1 : Int) else 0) = i at hby
    replace hiv := Aside0.mk hiv
    gi_wp2_with fail
    rename_i K hK
    have key : K { tmps := #[.pointer (some ⟨bb, 0, none⟩), .int .i64 v, .pointer (some ⟨w.heap.size, 0, none⟩), .pointer (some ⟨w.heap.size + 1, 0, none⟩), .slice none 0 0, .pointer (some ⟨w.heap.size + 1 + 1, 0, none⟩), undef, .string x.1.2, .pointer (some ⟨bb, 0, none⟩), .pointer (some ⟨bb, 0, none⟩), .pointer (some ⟨bb, 0, none⟩), .pointer (some ⟨lb, 0, none⟩), .func (.func 111) #[] #[.pointer (some ⟨w.heap.size + 1 + 1 + 1, 0, none⟩)], .int .i64 x.1.1, .string x.1.2, .pointer (some ⟨bb, 0, none⟩), .pointer (some ⟨bb, 0, none⟩), .pointer (some ⟨bb, 1, none⟩), .map (some mb), .string x.1.2, .agg #[.int .i64 (hd x.1.2), .map (some (gb x.1.2))], .map (some (gb x.1.2)), .int .i64 v, .int .i64 i, .bool (decide (0 < i)), undef, undef, undef, undef, undef], defers := [] } W.drew := by
      refine hK _ _ ?_
      clear hK
      have hr' : Boxed W.drew (w.heap.size + 1 + 1) 41 r := hr
      have hrow' : W.drew.ownsRow w.heap.size 9 1 r (byOf vs v pre).length ((byOf vs v pre).map Value.string) := hrow
      have hbx' : Boxed W.drew (w.heap.size + 1 + 1 + 1) 69 (.pointer (some ⟨lb, 0, none⟩)) := hbx
      have hB' : Below w.heap.size w W.drew := hB.drew
      have hx1' : Boxed W.drew w.heap.size 111 (.pointer (some ⟨bb, 0, none⟩)) := hx1
      have hx2' : Boxed W.drew (w.heap.size + 1) 3 (.int .i64 v) := hx2
      have hsz : w.heap.size ≤ W.drew.heap.size := hB.size
      have hko : KeepsOthers W W.drew := KeepsOthers.drew W
      have hbd : Below w.heap.size W W.drew := (Below.refl _ W).drew
      generalize W.drew = Wd at hr' hrow' hbx' hB' hx1' hx2' hsz hko hbd ⊢
      clear hc hd1 hd2 hlk hby hc1 hr hrow hbx hx1 hx2
      have hc := hr'.cell
      by_cases hvm : v ∈ vs x.1.2
      · rw [if_pos hvm] at hiv
        have hi1 : (0 : Int) < i := by have := hiv.out; omega
        rw [decide_eq_true hi1]
        gi_wp2_with (gi_at_builtin; refine wpListIn_append_own _ rfl _ _ 41 rfl w.heap.size 9 i0 (.string ⟨#[]⟩) 1 16 Try.underlying41 hi hz0 hz1 hz2 rfl (by decide) _ _ _ rfl (hrow'.alloc _) ⟨Wd.heap.size, 0, none⟩ 1 1 [.string x.1.2] rfl rfl (cell_one_new _ _ _) (by simp [Value.oneCell']) (by omega) (by omega) (by simp; omega) ?_; intro v' w1 hown' hgrow _; obtain ⟨g', cap', rfl⟩ := ownsRow_succ hown'; obtain ⟨hv1, hv2, hr2, hk2, hb2⟩ := hr'.appended (by decide) hrow' hB'.size (by omega) hown' hgrow; have hc1 := hv1.cell; have hf1 := hv1.frozen; have hx1' := boxed_far (C := w.heap.size + 1 + 1) hx1' (by decide) hrow' hgrow (by omega) (Value.slice (some ⟨g', 0, none⟩) ((byOf vs v pre).length + 1) cap'); have hx2' := boxed_far (C := w.heap.size + 1 + 1) hx2' (by decide) hrow' hgrow (by omega) (Value.slice (some ⟨g', 0, none⟩) ((byOf vs v pre).length + 1) cap'); have hbx1 := boxed_far (C := w.heap.size + 1 + 1) hbx' (by decide) hrow' hgrow (by omega) (Value.slice (some ⟨g', 0, none⟩) ((byOf vs v pre).length + 1) cap'))
        exact ⟨(hko.trans hk2).from _, ⟨fun b hb => (hbd.trans hb2).block b hb.2, fun _ => hbx1⟩, ⟨_, hv2, by rw [byOf_hit pre hvm]; simpa using hr2, trivial⟩, ⟨hx1', hx2'⟩, hbx1, hB'.trans hb2⟩
      · rw [if_neg hvm] at hiv
        have hi1 : ¬ (0 : Int) < i := by have := hiv.out; omega
        rw [decide_eq_false hi1]
        gi_wp2
        exact ⟨hko.from _, ⟨fun b hb => hbd.block b hb.2, fun _ => hbx'⟩, by have hrow2 := hrow'; rw [← byOf_miss pre hvm] at hrow2; exact ⟨r, hr', hrow2⟩, ⟨hx1', hx2'⟩, hbx', hB'⟩
    gi_region
    all_goals exact key
  case done =>
    rintro D ys W hD hys ⟨⟨r, hr, hrow, _⟩, _, hbx, hB⟩ hK
    have hc := hr.cell
    gi_wp2
    refine ⟨by simp, .inl ⟨_, _, rfl, run_takeDeferred hK, ?_⟩⟩
    have e : byOf vs v ys = ks.filter fun k => decide (v ∈ vs k) := by
      unfold byOf
      rw [show ys.map (·.1.2) = (ys.map (·.1)).map (·.2) by simp, hys]
      congr 1
      unfold prs
      rw [List.map_map, List.map_map]
      exact (List.map_congr_left fun k hk => by simp [h.val k hk]).trans (List.map_id _)
    rw [e] at hrow
    exact ⟨_, results_tmp rfl _ _ _, r, rfl, ownsRow_putObj hrow _ hK rfl, hB.trans (belowK_b (w := w) (Nat.le_refl _) W D _ _ (by simp at hD; omega) hK rfl rfl)⟩
  case stop =>
    rintro D c pre W _ _ h _
    exact h.elim
end
end Go.Proofs.Ytnncomhgclffaaa.BI
