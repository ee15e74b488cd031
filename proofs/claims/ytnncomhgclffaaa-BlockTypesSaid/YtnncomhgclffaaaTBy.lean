/- 'All' of package list at triples; 'By' of package block at (triple, string). -/
import Derived.Test.YtnncomhgclffaaaTIter
import Derived.RegionIn
namespace Go.Proofs.Ytnncomhgclffaaa.BT
open Go.RowKit Go.Proofs.YtnncomhgclffaaaW.PrintWords Go.Proofs.YtnncomhgclffaaaL Go.Proofs.Ytnncomhgclffaaa.LL Go.Proofs.Ytnncomhgclffaaa.LT
attribute [local go_sem] Oper.semAt_some
attribute [local go_sem] field166

theorem boxed_below {w W : World} {B : Nat} {t : TypeId} {v : Value} (h : Boxed w B t v) (hb : Below w.heap.size w W) : Boxed W B t v := (hb.block B h.lt).trans h

/-- The same, with each pair known to be of the list. -/
theorem all_stops_mem (n : Nat) (hn : 1 ≤ n) (Bn lb : Nat) (Fl : Nat → Prop) (row : List Int) (vals : List P2) (hl : vals.length < 100000) (w : World) (hBn : Boxed w Bn 158 (.pointer (some ⟨lb, 0, none⟩))) (hL : Lst w lb Fl row vals) :
    SeqStopsK Fence.wide n Try.prog 108 #[.pointer (some ⟨Bn, 0, none⟩)] (fun x : {x : Int × P2 // x ∈ prs vals row} => #[.int .i64 x.1.1, tri x.1.2]) (Kp Fl Bn lb) (fun ys => ys.map (·.1) = prs vals row) (fun _ => True) row.length w := fun l J Jx W hW hJa _ hY h0 => by
  refine (all1_in n hn l Bn lb Fl row vals hl (fun ys W => ∃ zs : List {x : Int × P2 // x ∈ prs vals row}, zs.map (·.1) = ys ∧ J zs W) (fun ys W => ∃ zs : List {x : Int × P2 // x ∈ prs vals row}, zs.map (·.1) = ys ∧ Jx zs W) ?_ W (fun ys W1 W2 row ⟨zs, hz, hJ⟩ hg hr => ⟨zs, hz, hJa _ _ _ _ hJ hg hr⟩) (boxed_below hBn hW) (hL.below hW) ⟨[], rfl, h0⟩).mono ?_
  · rintro pre x W ⟨zs, hz, hJ⟩ hx hlt
    obtain ⟨fn, tmps, assign, body, hy, hR⟩ := hY zs ⟨x, hx⟩ W hJ (by rw [← List.length_map (·.1), hz]; exact hlt)
    refine ⟨fn, tmps, assign, body, hy, hR.mono ?_⟩
    rintro e W' (⟨he, hJ', hk⟩ | ⟨he, hJ'⟩)
    · exact .inl ⟨he, ⟨_, by rw [List.map_append, hz]; rfl, hJ'⟩, hk⟩
    · exact .inr ⟨he, _, by rw [List.map_append, hz]; rfl, hJ'⟩
  · rintro e W' ⟨hv, h⟩
    refine ⟨hv, ?_⟩
    rcases h with ⟨ys, hy, zs, hz, hJ⟩ | ⟨pre, _, zs, _, hJ⟩
    · exact .inl ⟨zs, hz.trans hy, hJ⟩
    · exact .inr ⟨zs, trivial, hJ⟩

theorem all_in (n lb : Nat) (w : World) :
    CallsIn Fence.wide n Try.prog 104 #[.pointer (some ⟨lb, 0, none⟩)] w fun e w' => e = .returned (.func (.func 108) #[] #[.pointer (some ⟨w.heap.size, 0, none⟩)]) ∧ w' = w.alloc (.cells #[.pointer (some ⟨lb, 0, none⟩)] 158) := by
  refine callsIn_of_wp Try.func104 rfl trivial ?_ rfl
  simp only [Try.ntmps104, List.size_toArray, List.length_cons, List.length_nil, Nat.reduceAdd, Nat.reduceSub, Array.replicate_succ, Array.replicate_zero, List.push_toArray, List.append_toArray, List.nil_append, List.cons_append]
  gi_wp2
  go_ret
  exact ⟨rfl, rfl⟩

/-- A box stays while another's row is appended to. -/
theorem boxed_far {W w1 : World} {n₀ B C : Nat} {t e : TypeId} {size k : Nat} {u v : Value} {xs : List Value} {tmp : Obj}
    (hu : Boxed W B t u) (hte : t ≠ e) (hrow : W.ownsRow n₀ e size v k xs) (hgrow : (W.alloc tmp).grownBy w1 v.ownBlock) (hne : B ≠ C) (v' : Value) : Boxed (w1.setCell ⟨C, 0, none⟩ v') B t u :=
  (Below.heap_setCell _ _ _ _ hne).trans ((hu.alloc tmp).kept hgrow (hu.not_row hte hrow))

section
variable {w W : World} {bb lb mb : Nat} {Fl : Nat → Prop} {hd : P2 → Int} {gb : P2 → Nat} {ks : List P2} {vs : P2 → List ByteArray} {vals : List P2}
theorem BIs.good (h : BIs w bb lb mb Fl hd gb ks vs vals) {k : P2} (hk : k ∈ ks) : Good k := by
  obtain ⟨es, clock, _, _, _, _, h2⟩ := h.own
  exact (h2 k _ (if_pos hk)).1
theorem BIs.mem_prs (h : BIs w bb lb mb Fl hd gb ks vs vals) {x : Int × P2} (hx : x ∈ prs vals (ks.map hd)) : x.2 ∈ ks := by
  unfold prs at hx
  rw [List.map_map] at hx
  obtain ⟨k, hk, rfl⟩ := List.mem_map.1 hx
  show vOf vals (hd k) ∈ ks
  rw [h.val k hk]
  exact hk

/-- The values of what has come and is blocked. -/
noncomputable def byOf {S : Int × P2 → Prop} (vs : P2 → List ByteArray) (v : ByteArray) (pre : List {x : Int × P2 // S x}) : List P2 := (pre.map (·.1.2)).filter fun k => decide (v ∈ vs k)
theorem byOf_hit {S : Int × P2 → Prop} {vs : P2 → List ByteArray} {v : ByteArray} (pre : List {x : Int × P2 // S x}) {x : {x : Int × P2 // S x}} (h : v ∈ vs x.1.2) : byOf vs v (pre ++ [x]) = byOf vs v pre ++ [x.1.2] := by simp [byOf, h]
theorem byOf_miss {S : Int × P2 → Prop} {vs : P2 → List ByteArray} {v : ByteArray} (pre : List {x : Int × P2 // S x}) {x : {x : Int × P2 // S x}} (h : v ∉ vs x.1.2) : byOf vs v (pre ++ [x]) = byOf vs v pre := by simp [byOf, h]
theorem byOf_len {S : Int × P2 → Prop} {vs : P2 → List ByteArray} {v : ByteArray} (pre : List {x : Int × P2 // S x}) : (byOf vs v pre).length ≤ pre.length := Nat.le_trans (List.length_filter_le _ _) (by simp)

theorem own_boxed' {β : Type} {B : Nat} {t : TypeId} {v : Value} : Own (fun (_ : β) W => Boxed W B t v) := by
  rintro s X Y row hv hg hrow
  refine hv.kept hg (fun e' => ?_)
  obtain ⟨o, ho, hc⟩ := hrow B e'.symm
  rw [show X.heap[B]? = _ from hv] at ho; cases ho; cases hc


abbrev cs3 (x : P2) : List Value := [.int .i64 x.1, .int .i64 x.2.1, .int .i64 x.2.2]
def csT (l : List P2) : List Value := l.flatMap cs3
theorem csT_append (l : List P2) (x : P2) : csT (l ++ [x]) = csT l ++ cs3 x := by simp [csT]
theorem cells_at3 (W : World) (x : P2) : ∀ j u, (cs3 x)[j]? = some u → (W.alloc (.cells #[.int .i64 x.1, .int .i64 x.2.1, .int .i64 x.2.2] 60)).cell? ((⟨W.heap.size, 0, none⟩ : Addr).add j) = some u := fun j u hj => by
  have e : (⟨W.heap.size, 0, none⟩ : Addr).add j = ⟨W.heap.size, j, none⟩ := by
    unfold Addr.add
    split
    · rename_i e; subst e; rfl
    · simp
  rw [e, blk_cell (blk_new W _) j, ← hj]
  show (cs3 x).toArray[j]? = _
  simp
theorem info60 : (Try.prog.info? 60).map (fun i => (i.zero, i.size, i.bytes)) = some (some (.agg #[.int .i64 0, .int .i64 0, .int .i64 0]), 3, 24) := by kernel_rfl

/-- The round's own variable. -/
def AX (n : Nat) (bb lb : Nat) (v : ByteArray) {S : Int × P2 → Prop} (x : {x : Int × P2 // S x}) (a' : Act) (W : World) : Prop := ∃ Bx, n + 4 ≤ Bx ∧ W.heap[Bx]? = some (.cells #[.int .i64 x.1.2.1, .int .i64 x.1.2.2.1, .int .i64 x.1.2.2.2] 60 (0, 0)) ∧
  a' = { tmps := #[.pointer (some ⟨bb, 0, none⟩), .string v, .pointer (some ⟨n, 0, none⟩), .pointer (some ⟨n + 1, 0, none⟩), .slice none 0 0, .pointer (some ⟨n + 1 + 1, 0, none⟩), undef, .pointer (some ⟨Bx, 0, none⟩), .pointer (some ⟨bb, 0, none⟩), .pointer (some ⟨bb, 0, none⟩), .pointer (some ⟨bb, 0, none⟩), .pointer (some ⟨lb, 0, none⟩), .func (.func 108) #[] #[.pointer (some ⟨n + 1 + 1 + 1, 0, none⟩)], .int .i64 x.1.1, tri x.1.2, undef, undef, undef, undef, undef, undef, undef, undef, undef, undef, undef, undef, undef, undef, undef], defers := [] }
theorem ax_own (B n bb lb : Nat) (v : ByteArray) {S : Int × P2 → Prop} (x : {x : Int × P2 // S x}) (a' : Act) : OwnFrom B (fun (_ : Unit) W => AX n bb lb v x a' W) := fun _ W W' r h hg hr => by
  obtain ⟨Bx, h1, h2, h3⟩ := h
  refine ⟨Bx, h1, (hg.block Bx (Array.getElem?_eq_some_iff.1 h2).1 (fun e => ?_)).trans h2, h3⟩
  obtain ⟨_, o, ho, hc⟩ := hr Bx e.symm
  rw [h2] at ho; cases ho; cases hc
/-- What stands ahead of each round. -/
abbrev BI1 (n bb lb : Nat) (v : ByteArray) (vs : P2 → List ByteArray) (w : World) {S : Int × P2 → Prop} (pre : List {x : Int × P2 // S x}) (W : World) : Prop :=
  (∃ r, Boxed W (n + 1 + 1) 102 r ∧ W.ownsRow n 60 3 r (byOf vs v pre).length (csT (byOf vs v pre)) ∧ True) ∧ (Boxed W n 103 (.pointer (some ⟨bb, 0, none⟩)) ∧ Boxed W (n + 1) 9 (.string v)) ∧ Boxed W (n + 1 + 1 + 1) 158 (.pointer (some ⟨lb, 0, none⟩)) ∧ Below n w W
theorem bi1_own (n bb lb B : Nat) (v : ByteArray) (vs : P2 → List ByteArray) (w : World) {S : Int × P2 → Prop} (hn : n ≤ w.heap.size) (hB : n ≤ B) : OwnFrom B (fun (pre : List {x : Int × P2 // S x}) W => BI1 n bb lb v vs w pre W) :=
  OwnFrom.and (Own.from (holdsRow_own n (n + 1 + 1) 102 60 3 (fun pre => (byOf vs v pre).length) (fun pre => csT (byOf vs v pre)) (fun _ _ => True)) _) (OwnFrom.and (OwnFrom.and (own_boxed'.from _) (own_boxed'.from _)) (OwnFrom.and (own_boxed'.from _) (ownFrom_below hn hB)))

set_option maxRecDepth 100000 in
set_option maxHeartbeats 4000000 in
theorem by_in (n : Nat) (hn : 3 ≤ n) (h : BIs w bb lb mb Fl hd gb ks vs vals) (v : ByteArray) (hv64 : v.size ≤ maxLen) (hl : vals.length < 100000) (hk : ks.length < 100000) :
    CallsIn Fence.wide n Try.prog 69 #[.pointer (some ⟨bb, 0, none⟩), .string v] w fun e W' => ∃ r, e = .returned r ∧ W'.ownsRow w.heap.size 60 3 r (ks.filter fun k => decide (v ∈ vs k)).length (csT (ks.filter fun k => decide (v ∈ vs k))) ∧ Below w.heap.size w W' := by
  have h1 : 1 ≤ n := by omega
  have hro : Fence.wide.round = none := rfl
  obtain ⟨i0, hi, hz0, hz1, hz2⟩ := info_parts info60
  replace hi := Aside0.mk hi
  replace hz0 := Aside0.mk hz0
  replace hz1 := Aside0.mk hz1
  replace hz2 := Aside0.mk hz2
  have hc0 := h.c0
  have hblt := blk_lt h.head
  have hb3 : Below w.heap.size w (((w.alloc (.cells #[.pointer (some ⟨bb, 0, none⟩)] 103)).alloc (.cells #[.string v] 9)).alloc (.cells #[.slice none 0 0] 102)) := (((Below.refl _ w).alloc (Nat.le_refl _) _).alloc (by simp) _).alloc (by simp; omega) _
  have hc3 := (hb3.cell (p := ⟨bb, 0, none⟩) hblt).trans hc0
  clear hb3
  refine callsIn_of_wp_marks Try.func69 rfl trivial ?_ hro
  simp only [Try.ntmps69, List.size_toArray, List.length_cons, List.length_nil, Nat.reduceAdd, Nat.reduceSub, Array.replicate_succ, Array.replicate_zero, List.push_toArray, List.append_toArray, List.nil_append, List.cons_append]
  gi_wp2_with (refine ⟨trivial, ?_⟩; gi_at_call 104; refine (all_in (n - 1) lb _).mono ?_; rintro e w' ⟨rfl, rfl⟩)
  have b1 := Boxed.new w 103 (.pointer (some ⟨bb, 0, none⟩))
  have b2 := Boxed.new (w.alloc (.cells #[.pointer (some ⟨bb, 0, none⟩)] 103)) 9 (.string v)
  have bO := Boxed.new ((w.alloc (.cells #[.pointer (some ⟨bb, 0, none⟩)] 103)).alloc (.cells #[.string v] 9)) 102 (.slice none 0 0)
  have bN := Boxed.new (((w.alloc (.cells #[.pointer (some ⟨bb, 0, none⟩)] 103)).alloc (.cells #[.string v] 9)).alloc (.cells #[.slice none 0 0] 102)) 158 (.pointer (some ⟨lb, 0, none⟩))
  simp only [World.size_alloc] at b2 bO bN
  have hB0 : Below w.heap.size w ((((w.alloc (.cells #[.pointer (some ⟨bb, 0, none⟩)] 103)).alloc (.cells #[.string v] 9)).alloc (.cells #[.slice none 0 0] 102)).alloc (.cells #[.pointer (some ⟨lb, 0, none⟩)] 158)) := ((((Below.refl _ w).alloc (Nat.le_refl _) _).alloc (by simp) _).alloc (by simp; omega) _).alloc (by simp; omega) _
  have hL : Lst ((((w.alloc (.cells #[.pointer (some ⟨bb, 0, none⟩)] 103)).alloc (.cells #[.string v] 9)).alloc (.cells #[.slice none 0 0] 102)).alloc (.cells #[.pointer (some ⟨lb, 0, none⟩)] 158)) lb (fun b => Fl b ∧ b < w.heap.size) (ks.map hd) vals := h.lst.bound.below hB0
  refine wpIn_rangeFunc_ownH hro h1 (gf := 108) (lb := #[.pointer (some ⟨w.heap.size + 1 + 1 + 1, 0, none⟩)]) rfl trivial (enters_of Try.func108 (by kernel_rfl) rfl)
    (all_stops_mem (n - 1) (by omega) (w.heap.size + 1 + 1 + 1) lb _ _ vals hl _ bN hL) Kp.t (fun W l o o' hl' => Kp.b (fun b hb => by have := hb.2; simp; omega) W l o o' hl') (Below.refl _ _) (fun _ => rfl)
    (BI1 w.heap.size bb lb v vs w) (fun _ _ _ => False) (bi1_own _ _ _ _ _ _ _ (Nat.le_refl _) (by simp; omega)) (fun _ _ _ _ _ hs _ _ => hs)
    ⟨⟨_, bO.alloc _, World.ownsRow_nil _ _ _ _, trivial⟩, ⟨((b1.alloc _).alloc _).alloc _, (b2.alloc _).alloc _⟩, bN, hB0⟩
    (AX w.heap.size bb lb v) (fun x a' => ax_own _ _ _ _ _ x a') ?assign ?body ?done ?stop
  case assign =>
    rintro l pre x W K hi2 hK
    have hsz := hi2.2.2.2.size
    have hlt3 := hi2.2.2.1.lt
    unfold tri
    gi_wp2
    refine hK _ _ ((KeepsOthers.alloc _ _).from _) ⟨fun b hb => Below.heap_alloc _ _ _ (by have := hb.2; omega), fun hx => hx.alloc _⟩ ((bi1_own _ _ _ _ _ _ _ (Nat.le_refl _) (Nat.le_refl _)).alloc _ hi2) ⟨W.heap.size, by omega, blk_new W _, rfl⟩
  case body =>
    rintro l pre x a' W hl ⟨rl, hrl⟩ ⟨⟨r, hr, hrow, _⟩, ⟨hx1, hx2⟩, hbx, hB⟩ ⟨Bx, hBx, bX, rfl⟩ hlt
    have q0 := (blk_cell bX 0).trans (show _ = some (Value.int .i64 x.1.2.1) from rfl)
    have q1 := (blk_cell bX 1).trans (show _ = some (Value.int .i64 x.1.2.2.1) from rfl)
    have q2 := (blk_cell bX 2).trans (show _ = some (Value.int .i64 x.1.2.2.2) from rfl)
    have hd1 := hx1.cell
    have hd2 := hx2.cell
    rw [List.length_map] at hlt
    have hmax : 100000 ≤ maxLen := by decide
    have g := h.move (W := W) (fun b _ hl => hB.block b hl)
    have hm := h.mem_prs x.2
    have hlk : (Instr.lookup 160 (.map (some mb)) (.agg #[.int .i64 x.1.2.1, .int .i64 x.1.2.2.1, .int .i64 x.1.2.2.2]) false).run Try.prog W.drew = .ok (.agg #[.int .i64 (hd x.1.2), .map (some (gb x.1.2))]) W.drew := by
      have := (g.move (W := W.drew) (fun _ _ _ => rfl)).look_in (h.good hm) hm false
      simpa only [Bool.false_eq_true, if_false, ownerOf, tri] using this
    have hby := by_look (W := W.drew) ((g.by_ _ hm).of_heap rfl) hv64
    have hc1 := g.c1
    have hpl := byOf_len (vs := vs) (v := v) pre
    clear g
    generalize hiv : (if v ∈ vs x.1.2 then (1 : Int) else 0) = i at hby
    replace hiv := Aside0.mk hiv
    unfold tri
    gi_wp2_with fail
    rename_i K hK
    have key : K { tmps := #[.pointer (some ⟨bb, 0, none⟩), .string v, .pointer (some ⟨w.heap.size, 0, none⟩), .pointer (some ⟨w.heap.size + 1, 0, none⟩), .slice none 0 0, .pointer (some ⟨w.heap.size + 1 + 1, 0, none⟩), undef, .pointer (some ⟨Bx, 0, none⟩), .pointer (some ⟨bb, 0, none⟩), .pointer (some ⟨bb, 0, none⟩), .pointer (some ⟨bb, 0, none⟩), .pointer (some ⟨lb, 0, none⟩), .func (.func 108) #[] #[.pointer (some ⟨w.heap.size + 1 + 1 + 1, 0, none⟩)], .int .i64 x.1.1, .agg #[.int .i64 x.1.2.1, .int .i64 x.1.2.2.1, .int .i64 x.1.2.2.2], .pointer (some ⟨bb, 0, none⟩), .pointer (some ⟨bb, 0, none⟩), .pointer (some ⟨bb, 1, none⟩), .map (some mb), .agg #[.int .i64 x.1.2.1, .int .i64 x.1.2.2.1, .int .i64 x.1.2.2.2], .agg #[.int .i64 (hd x.1.2), .map (some (gb x.1.2))], .map (some (gb x.1.2)), .string v, .int .i64 i, .bool (decide (0 < i)), undef, undef, undef, undef, undef], defers := [] } W.drew := by
      refine hK _ _ ?_
      clear hK
      have hr' : Boxed W.drew (w.heap.size + 1 + 1) 102 r := hr
      have hrow' : W.drew.ownsRow w.heap.size 60 3 r (byOf vs v pre).length (csT (byOf vs v pre)) := hrow
      have hbx' : Boxed W.drew (w.heap.size + 1 + 1 + 1) 158 (.pointer (some ⟨lb, 0, none⟩)) := hbx
      have hB' : Below w.heap.size w W.drew := hB.drew
      have hx1' : Boxed W.drew w.heap.size 103 (.pointer (some ⟨bb, 0, none⟩)) := hx1
      have hx2' : Boxed W.drew (w.heap.size + 1) 9 (.string v) := hx2
      have bX' : W.drew.heap[Bx]? = some (.cells #[.int .i64 x.1.2.1, .int .i64 x.1.2.2.1, .int .i64 x.1.2.2.2] 60 (0, 0)) := bX
      have hsz : w.heap.size ≤ W.drew.heap.size := hB.size
      have hko : KeepsOthers W W.drew := KeepsOthers.drew W
      have hbd : Below w.heap.size W W.drew := (Below.refl _ W).drew
      generalize W.drew = Wd at hr' hrow' hbx' hB' hx1' hx2' hsz hko hbd bX' ⊢
      clear hc3 hd1 hd2 hlk hby hc1 hr hrow hbx hx1 hx2 q0 q1 q2 bX hrl
      obtain ⟨va, vc, rfl⟩ : ∃ a c, r = .slice a (byOf vs v pre).length c := by
        rcases hrow'.2 with ⟨rfl, h0⟩ | ⟨g, cap, cur, rfl, _⟩
        · exact ⟨_, _, by rw [h0]⟩
        · exact ⟨_, _, rfl⟩
      have hc := hr'.cell
      have q0 := (blk_cell bX' 0).trans (show _ = some (Value.int .i64 x.1.2.1) from rfl)
      have q1 := (blk_cell bX' 1).trans (show _ = some (Value.int .i64 x.1.2.2.1) from rfl)
      have q2 := (blk_cell bX' 2).trans (show _ = some (Value.int .i64 x.1.2.2.2) from rfl)
      have hcn := Aside0.mk (cells_at3 Wd x.1.2)
      replace hbx' := Aside0.mk hbx'
      replace hx1' := Aside0.mk hx1'
      replace hx2' := Aside0.mk hx2'
      replace hB' := Aside0.mk hB'
      replace hko := Aside0.mk hko
      replace hbd := Aside0.mk hbd
      by_cases hvm : v ∈ vs x.1.2
      · rw [if_pos hvm] at hiv
        have hi1 : (0 : Int) < i := by have := hiv.out; omega
        rw [decide_eq_true hi1]
        gi_wp2_with (gi_at_builtin; refine wpListIn_append_own _ rfl _ _ 102 rfl w.heap.size 60 i0 (.agg #[.int .i64 0, .int .i64 0, .int .i64 0]) 3 24 Try.underlying102 hi.out hz0.out hz1.out hz2.out rfl (by decide) _ _ _ rfl (hrow'.alloc _) ⟨Wd.heap.size, 0, none⟩ 1 1 (cs3 x.1.2) rfl rfl hcn.out (by simp [Value.oneCell']) (by omega) (by omega) (by have := hB'.out.size; simp; omega) ?_; intro v' w1 hown' hgrow _; obtain ⟨g', cap', rfl⟩ := ownsRow_succ hown'; obtain ⟨hv1, hv2, hr2, hk2, hb2⟩ := hr'.appended (by decide) hrow' hB'.out.size (by omega) hown' hgrow; have hc1 := hv1.cell; have hf1 := hv1.frozen; have hx1'' := Aside0.mk (boxed_far (C := w.heap.size + 1 + 1) hx1'.out (by decide) hrow' hgrow (by omega) (Value.slice (some ⟨g', 0, none⟩) ((byOf vs v pre).length + 1) cap')); have hx2'' := Aside0.mk (boxed_far (C := w.heap.size + 1 + 1) hx2'.out (by decide) hrow' hgrow (by omega) (Value.slice (some ⟨g', 0, none⟩) ((byOf vs v pre).length + 1) cap')); have hbx1 := Aside0.mk (boxed_far (C := w.heap.size + 1 + 1) hbx'.out (by decide) hrow' hgrow (by omega) (Value.slice (some ⟨g', 0, none⟩) ((byOf vs v pre).length + 1) cap')); replace hk2 := Aside0.mk hk2; replace hb2 := Aside0.mk hb2)
        exact ⟨(hko.out.trans hk2.out).from _, ⟨fun b hb => (hbd.out.trans hb2.out).block b hb.2, fun _ => hbx1.out⟩, ⟨_, hv2, by rw [byOf_hit pre hvm, List.length_append, csT_append]; exact hr2, trivial⟩, ⟨hx1''.out, hx2''.out⟩, hbx1.out, hB'.out.trans hb2.out⟩
      · rw [if_neg hvm] at hiv
        have hi1 : ¬ (0 : Int) < i := by have := hiv.out; omega
        rw [decide_eq_false hi1]
        gi_wp2
        exact ⟨hko.out.from _, ⟨fun b hb => hbd.out.block b hb.2, fun _ => hbx'.out⟩, by rw [byOf_miss pre hvm]; exact ⟨_, hr', hrow', trivial⟩, ⟨hx1'.out, hx2'.out⟩, hbx'.out, hB'.out⟩
    gi_region
    all_goals exact key
  case done =>
    rintro D ys W hD hys ⟨⟨r, hr, hrow, _⟩, _, hbx, hB⟩ hK
    obtain ⟨va, vc, rfl⟩ : ∃ a c, r = .slice a (byOf vs v ys).length c := by
      rcases hrow.2 with ⟨rfl, h0⟩ | ⟨g, cap, cur, rfl, _⟩
      · exact ⟨_, _, by rw [h0]⟩
      · exact ⟨_, _, rfl⟩
    have hc := hr.cell
    gi_wp2
    refine ⟨by simp, .inl ⟨_, _, rfl, run_takeDeferred hK, ?_⟩⟩
    have e : byOf vs v ys = ks.filter fun k => decide (v ∈ vs k) := by
      unfold byOf
      rw [show ys.map (·.1.2) = (ys.map (·.1)).map (·.2) by simp, hys]
      congr 1
      unfold prs
      rw [List.map_map, List.map_map]
      exact (List.map_congr_left fun k hk => by simp [h.val k hk]).trans (List.map_id _)
    rw [← e]
    exact ⟨_, results_tmp rfl _ _ _, _, rfl, ownsRow_putObj hrow _ hK rfl, hB.trans (belowK_b (w := w) (Nat.le_refl _) W D _ _ (by simp at hD; omega) hK rfl rfl)⟩
  case stop =>
    rintro D c pre W _ _ h _
    exact h.elim
end
end Go.Proofs.Ytnncomhgclffaaa.BT
