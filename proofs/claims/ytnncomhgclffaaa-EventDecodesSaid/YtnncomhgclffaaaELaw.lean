/- The walk of the law EventDecodes. -/
import Derived.Test.YtnncomhgclffaaaEAwake
import Derived.Deep.RegionHeld3
import Derived.Deep.RegionWith
import Derived.Deep.CutRange
import Derived.Laws.BytesArg
namespace Go.Proofs.Ytnncomhgclffaaa.EV
open Go.RowKit Go.Proofs.YtnncomhgclffaaaW.PrintWords Go.Proofs.YtnncomhgclffaaaL Go.Proofs.YtnncomhgclffaaaL.Ev

attribute [local go_sem high] eq60 eq62 eq64 build60z build60c build62a build62b

theorem sb_nums {l : List Int} (h : Bytes l) : sb (strOfNums l) = l := by
  unfold sb
  rw [strOfNums_data, List.map_map]
  conv => rhs; rw [← List.map_id l]
  apply List.map_congr_left
  intro x hx
  have := h x hx
  simp only [Function.comp, id]
  rw [UInt8.toNat_ofNat']
  have h2 : (2 : Nat) ^ 8 = 256 := rfl
  rw [h2]
  omega

theorem conv_rd {B : Nat} {W : World} {v : Value} {l : List Int} (h : Rd B W v l) : (convert 22 9 v).run Try.prog W = .ok (.string (strOfNums l)) W := by
  obtain ⟨A, cap, rfl, h1, h2, h3, h4⟩ := h
  rcases Nat.eq_zero_or_pos l.length with h0 | h0
  · obtain rfl : l = [] := List.eq_nil_of_length_eq_zero h0
    show (convert 22 9 (.slice A 0 cap)).run Try.prog W = .ok (.string ByteArray.empty) W
    rw [run_convert_bytes_string W 22 9 5 _ 0 cap Try.underlying22 Try.underlying5 Try.underlying9]
    cases A <;> simp [Conv.bytesToString, loadCells]
    all_goals rfl
  · obtain ⟨b, off, rfl, hl, hc⟩ := h4 h0
    exact run_convert_bytes_arg W 22 5 Try.underlying22 Try.underlying5 b off l.length cap l rfl (fun i hi => by rw [hc i hi]; simp [List.getD, hi]) 9 Try.underlying9

theorem Rd.up {B B' : Nat} {w : World} {v : Value} {l : List Int} (h : Rd B w v l) (hb : B ≤ B') : Rd B' w v l := by
  obtain ⟨A, cap, e, h1, h2, h3, h4⟩ := h
  refine ⟨A, cap, e, h1, h2, h3, fun hp => ?_⟩
  obtain ⟨b, off, e2, hl, hc⟩ := h4 hp
  exact ⟨b, off, e2, Nat.lt_of_lt_of_le hl hb, hc⟩

theorem owns_mono {w : World} {base base' : Nat} {e : TypeId} {size n : Nat} {v : Value} {xs : List Value} (h : w.ownsRow base e size v n xs) (hb : base' ≤ base) : w.ownsRow base' e size v n xs :=
  ⟨h.1, h.2.imp id (fun ⟨g, cap, cur, a, b, c⟩ => ⟨g, cap, cur, a, Nat.le_trans hb b, c⟩)⟩

/-- The cells of a box that holds an event, and of the like event of the other row; what lies below stays. -/
abbrev Held (B q g o : Nat) (w : World) (k a b c v : Int) (W : World) : Prop :=
  W.cell? ⟨q, 0, none⟩ = some (.int .i64 k) ∧ W.cell? ⟨q, 1, none⟩ = some (.int .i64 a) ∧ W.cell? ⟨q, 2, none⟩ = some (.int .i64 b) ∧ W.cell? ⟨q, 3, none⟩ = some (.int .i64 c) ∧ W.cell? ⟨q, 4, none⟩ = some (.int .i64 v) ∧
  W.cell? ⟨g, o, none⟩ = some (.int .i64 k) ∧ W.cell? ⟨g, o + 1, none⟩ = some (.int .i64 a) ∧ W.cell? ⟨g, o + 2, none⟩ = some (.int .i64 b) ∧ W.cell? ⟨g, o + 3, none⟩ = some (.int .i64 c) ∧ W.cell? ⟨g, o + 4, none⟩ = some (.int .i64 v) ∧
  Below B w W ∧ q < W.heap.size ∧ g < W.heap.size ∧ B ≤ W.heap.size
theorem Held.keep {B q g o : Nat} {w : World} {k a b c v : Int} {w1 w2 : World} (h : Held B q g o w k a b c v w1) (hb : Below w1.heap.size w1 w2) : Held B q g o w k a b c v w2 := by
  obtain ⟨h0, h1, h2, h3, h4, i0, i1, i2, i3, i4, hB, hq, hg, hBs⟩ := h
  have hs := hb.size
  exact ⟨(hb.cell (p := ⟨_, _, none⟩) hq).trans h0, (hb.cell (p := ⟨_, _, none⟩) hq).trans h1, (hb.cell (p := ⟨_, _, none⟩) hq).trans h2, (hb.cell (p := ⟨_, _, none⟩) hq).trans h3, (hb.cell (p := ⟨_, _, none⟩) hq).trans h4,
    (hb.cell (p := ⟨_, _, none⟩) hg).trans i0, (hb.cell (p := ⟨_, _, none⟩) hg).trans i1, (hb.cell (p := ⟨_, _, none⟩) hg).trans i2, (hb.cell (p := ⟨_, _, none⟩) hg).trans i3, (hb.cell (p := ⟨_, _, none⟩) hg).trans i4,
    hB.trans (hb.mono hBs), Nat.lt_of_lt_of_le hq hs, Nat.lt_of_lt_of_le hg hs, Nat.le_trans hBs hs⟩

/-- A call of Decode, of either hand, from a later world. -/
def Did (w W : World) (T : TypeId) (l : List Int) (n : Nat) (e : Ending) (w' : World) : Prop :=
  ∃ A cap, e = .returned (.slice A n cap) ∧ w'.ownsRow W.heap.size T 5 (.slice A n cap) n ((dec l).flatMap evCells) ∧ Below W.heap.size W w' ∧ Below w.heap.size w w' ∧ W.heap.size ≤ w'.heap.size
theorem dec_did {w W : World} {v : Value} {l : List Int} {n : Nat} (hn : (dec l).length = n) (h : Rd w.heap.size w v l) (hb : Below w.heap.size w W) : Calls Try.prog 38 #[v] W (Did w W 62 l n) := by
  subst hn
  refine (decode_walk W v l ((h.below hb).up hb.size)).mono ?_
  rintro e w' ⟨v1, rfl, ho, hb2⟩
  obtain ⟨A, cap, rfl⟩ := owns_form ho
  exact ⟨A, cap, rfl, ho, hb2, hb.trans (hb2.mono hb.size), hb2.size⟩
theorem ref_did {w W : World} {l : List Int} {n : Nat} (hn : (dec l).length = n) (h : Bytes l) (hl : l.length ≤ 100000) (hb : Below w.heap.size w W) : Calls Try.prog 39 #[.string (strOfNums l)] W (Did w W 64 l n) := by
  subst hn
  refine (refDecode_walk W (strOfNums l) (by rw [strOfNums_size]; exact hl)).mono ?_
  rintro e w' ⟨v1, rfl, ho, hb2⟩
  rw [sb_nums h] at ho
  obtain ⟨A, cap, rfl⟩ := owns_form ho
  exact ⟨A, cap, rfl, ho, hb2, hb.trans (hb2.mono hb.size), hb2.size⟩

/-- What the two calls leave. -/
def Both (w : World) (l : List Int) (n : Nat) (a b : Value) (W : World) : Prop :=
  ∃ A cap A' cap', a = .slice A n cap ∧ b = .slice A' n cap' ∧ W.ownsRow w.heap.size 62 5 (.slice A n cap) n ((dec l).flatMap evCells) ∧ W.ownsRow w.heap.size 64 5 (.slice A' n cap') n ((dec l).flatMap evCells) ∧ Below w.heap.size w W

set_option maxHeartbeats 4000000 in
set_option maxRecDepth 100000 in
theorem law_walk (w : World) (v : Value) (l : List Int) (h : Rd w.heap.size w v l) : Calls Try.prog 8 #[v] w (ret1 w) := by
  have hlen := h.short
  have hby := Aside0.mk h.bytes
  obtain ⟨A0, cap0, rfl⟩ := h.form
  replace h := Aside0.mk h
  by_cases hbig : 300 < l.length
  · go_enter Try.func8, Try.ntmps8
    go_wp2_with (go_at_call 37; refine (awake_walk _).mono ?_; rintro e w2 ⟨rfl, b2⟩; replace b2 := Aside0.mk b2)
    go_ret
    exact ⟨rfl, b2.out⟩
  · go_enter Try.func8, Try.ntmps8
    obtain ⟨n, hn⟩ : ∃ n, (dec l).length = n := ⟨_, rfl⟩
    have hnl : n ≤ 300 := by rw [← hn]; exact Nat.le_trans (dec_length _ l (Nat.le_refl _)) (by omega)
    replace hn := Aside0.mk hn
    go_upto_region 3 with fail
    go_cut [3, 4] from 11 to 15 (fun a b wx => Both w l n a b wx)
    case first =>
      have hcv := conv_rd (show Rd w.heap.size w.drew _ l from h.out)
      have hb0 := Aside0.mk (show Below w.heap.size w w.drew from (Below.refl _ _).drew)
      have hll : l.length ≤ 100000 := by omega
      go_region_with (first
        | (go_at_call 38; refine (dec_did (w := w) hn.out h.out ?_).mono ?_; (first | exact hb0.out | exact hbr.out); rintro e wd ⟨Ad, capd, rfl, hod, hbd1, hbd, hsd⟩; have hcv1 := conv_rd (h.out.below hbd); replace hod := Aside0.mk hod; replace hbd := Aside0.mk hbd; replace hbd1 := Aside0.mk hbd1; replace hsd := Aside0.mk hsd)
        | (go_at_call 39; refine (ref_did (w := w) hn.out hby.out hll ?_).mono ?_; (first | exact hb0.out | exact hbd.out); rintro e wr ⟨Ar, capr, rfl, hor, hbr1, hbr, hsr⟩; replace hor := Aside0.mk hor; replace hbr := Aside0.mk hbr; replace hbr1 := Aside0.mk hbr1; replace hsr := Aside0.mk hsr))
      all_goals (go_wp2_with fail; go_meet)
      all_goals first
        | exact ⟨_, _, _, _, rfl, rfl, owns_below hod.out hbr1.out, owns_mono hor.out hbd.out.size, hbr.out⟩
        | exact ⟨_, _, _, _, rfl, rfl, owns_mono hod.out hbr.out.size, owns_below hor.out hbd1.out, hbd.out⟩
    case rest =>
      obtain ⟨A, cap, A', cap', rfl, rfl, ho1, ho2, hb⟩ := hcut
      replace ho1 := Aside0.mk ho1
      replace ho2 := Aside0.mk ho2
      replace hb := Aside0.mk hb
      go_wp2_with fail
      obtain ⟨W1, hW1⟩ : ∃ W1 : World, W1 = wc := ⟨_, rfl⟩
      go_loopw [23] (fun i wr => ∃ k : Nat, i = .int .i64 k ∧ k ≤ n ∧ Below W1.heap.size W1 wr) (fun i _ => n - (intOf i).toNat)
      case atStart => exact ⟨0, rfl, Nat.zero_le _, hW1 ▸ Below.refl _ _⟩
      case round =>
        obtain ⟨k, rfl, hk, hbw⟩ := hrel
        have hs1 := hbw.size
        replace hbw := Aside0.mk hbw
        by_cases hlt : k < n
        · obtain ⟨g, cg, hv, hg1, hg2⟩ := owns_form1 ho1.out (by omega)
          cases hv
          obtain ⟨g', cg', hv', hg1', hg2'⟩ := owns_form1 ho2.out (by omega)
          cases hv'
          have hkd : k < (dec l).length := by rw [hn.out]; exact hlt
          have E1 : ∀ j, j < 5 → wr.cell? ⟨g, k * 5 + j, none⟩ = (evCells (dec l)[k])[j]? := fun j hj => by
            rw [hbw.out.cell (p := ⟨g, k * 5 + j, none⟩) (by rw [hW1]; exact hg2)]
            subst hW1
            have := hn.out
            subst this
            exact own_ev ho1.out k hkd j hj
          have E2 : ∀ j, j < 5 → wr.cell? ⟨g', k * 5 + j, none⟩ = (evCells (dec l)[k])[j]? := fun j hj => by
            rw [hbw.out.cell (p := ⟨g', k * 5 + j, none⟩) (by rw [hW1]; exact hg2')]
            subst hW1
            have := hn.out
            subst this
            exact own_ev ho2.out k hkd j hj
          have hrt := Aside0.mk (right_dec _ l (Nat.le_refl _) hby.out (dec l)[k] (List.getElem_mem hkd))
          obtain ⟨ev, hev⟩ : ∃ ev, (dec l)[k] = ev := ⟨_, rfl⟩
          rw [hev] at E1 E2 hrt
          clear hev hkd
          obtain ⟨q0, ⟨qa, qb, qc⟩, qv⟩ := ev
          have c0 : wr.cell? ⟨g, k * 5, none⟩ = some (.int .i64 q0) := E1 0 (by decide)
          have c1 : wr.cell? ⟨g, k * 5 + 1, none⟩ = some (.int .i64 qa) := E1 1 (by decide)
          have c2 : wr.cell? ⟨g, k * 5 + 2, none⟩ = some (.int .i64 qb) := E1 2 (by decide)
          have c3 : wr.cell? ⟨g, k * 5 + 3, none⟩ = some (.int .i64 qc) := E1 3 (by decide)
          have c4 : wr.cell? ⟨g, k * 5 + 4, none⟩ = some (.int .i64 qv) := E1 4 (by decide)
          have d0 : wr.cell? ⟨g', k * 5, none⟩ = some (.int .i64 q0) := E2 0 (by decide)
          have d1 : wr.cell? ⟨g', k * 5 + 1, none⟩ = some (.int .i64 qa) := E2 1 (by decide)
          have d2 : wr.cell? ⟨g', k * 5 + 2, none⟩ = some (.int .i64 qb) := E2 2 (by decide)
          have d3 : wr.cell? ⟨g', k * 5 + 3, none⟩ = some (.int .i64 qc) := E2 3 (by decide)
          have d4 : wr.cell? ⟨g', k * 5 + 4, none⟩ = some (.int .i64 qv) := E2 4 (by decide)
          clear E1 E2
          have hT : Held wr.heap.size wr.heap.size g' (k * 5) wr q0 qa qb qc qv (wr.alloc (.cells #[.int .i64 q0, .int .i64 qa, .int .i64 qb, .int .i64 qc, .int .i64 qv] 62)) := by
            have hb2 : Below wr.heap.size wr (wr.alloc (.cells #[.int .i64 q0, .int .i64 qa, .int .i64 qb, .int .i64 qc, .int .i64 qv] 62)) := (Below.refl _ _).alloc (Nat.le_refl _) _
            have hgw : g' < wr.heap.size := by rw [hW1] at hs1; omega
            refine ⟨?_, ?_, ?_, ?_, ?_, (hb2.cell (p := ⟨_, _, none⟩) hgw).trans d0, (hb2.cell (p := ⟨_, _, none⟩) hgw).trans d1, (hb2.cell (p := ⟨_, _, none⟩) hgw).trans d2, (hb2.cell (p := ⟨_, _, none⟩) hgw).trans d3, (hb2.cell (p := ⟨_, _, none⟩) hgw).trans d4, hb2, ?_, ?_, ?_⟩
            · go_simp
            · go_simp
            · go_simp
            · go_simp
            · go_simp
            · show _ < (wr.alloc _).heap.size; rw [World.size_alloc]; omega
            · show _ < (wr.alloc _).heap.size; rw [World.size_alloc]; omega
            · show _ ≤ (wr.alloc _).heap.size; rw [World.size_alloc]; omega
          clear d0 d1 d2 d3 d4
          replace hT := Aside0.mk hT
          go_upto_region 9 with fail
          replace hT := hT.out
          generalize (wr.alloc (.cells #[.int .i64 q0, .int .i64 qa, .int .i64 qb, .int .i64 qc, .int .i64 qv] 62)) = W2 at hT ⊢
          have hT1 : Held wr.heap.size wr.heap.size g' (k * 5) wr q0 qa qb qc qv W2.drew := by
            obtain ⟨h0, h1, h2, h3, h4, i0, i1, i2, i3, i4, hB, hq, hg, hBs⟩ := hT
            exact ⟨h0, h1, h2, h3, h4, i0, i1, i2, i3, i4, hB.drew, hq, hg, hBs⟩
          clear hT c0 c1 c2 c3 c4
          go_region_held3 (fun W => W.cell? ⟨wr.heap.size, 0, none⟩ = some (.int .i64 q0) ∧ W.cell? ⟨wr.heap.size, 1, none⟩ = some (.int .i64 qa) ∧ W.cell? ⟨wr.heap.size, 2, none⟩ = some (.int .i64 qb) ∧ W.cell? ⟨wr.heap.size, 3, none⟩ = some (.int .i64 qc) ∧ W.cell? ⟨wr.heap.size, 4, none⟩ = some (.int .i64 qv) ∧
            W.cell? ⟨g', k * 5, none⟩ = some (.int .i64 q0) ∧ W.cell? ⟨g', k * 5 + 1, none⟩ = some (.int .i64 qa) ∧ W.cell? ⟨g', k * 5 + 2, none⟩ = some (.int .i64 qb) ∧ W.cell? ⟨g', k * 5 + 3, none⟩ = some (.int .i64 qc) ∧ W.cell? ⟨g', k * 5 + 4, none⟩ = some (.int .i64 qv) ∧
            Below wr.heap.size wr W ∧ wr.heap.size < W.heap.size ∧ g' < W.heap.size ∧ wr.heap.size ≤ W.heap.size) (assumption)
            (first | (go_at_call 40; refine (ref_walk _ _ _ _ _ _).mono ?_; rintro e w1 ⟨rfl, hbc⟩; have hT2 := Held.keep (B := wr.heap.size) (q := wr.heap.size) (g := g') (o := k * 5) (w := wr) (k := q0) (a := qa) (b := qb) (c := qc) (v := qv) (by assumption) hbc) | (go_at_call 41; refine (right_walk _ (q0, (qa, qb, qc), qv) hrt.out).mono ?_; rintro e w1 ⟨rfl, hbc⟩; have hT2 := Held.keep (B := wr.heap.size) (q := wr.heap.size) (g := g') (o := k * 5) (w := wr) (k := q0) (a := qa) (b := qb) (c := qc) (v := qv) (by assumption) hbc))
          have hbf := Aside0.mk (‹Held wr.heap.size wr.heap.size g' (k * 5) wr q0 qa qb qc qv _›).2.2.2.2.2.2.2.2.2.2.1
          go_wp2_with fail
          go_roundw
          case rel => exact ⟨k + 1, by go_num, by omega, hbw.out.trans (hbf.out.mono hs1)⟩
          case measure => simp [intOf]; omega
        · go_wp2_with (go_at_call 37; refine (awake_walk _).mono ?_; rintro e w2 ⟨rfl, b2⟩; replace b2 := Aside0.mk b2)
          go_ret
          exact ⟨rfl, hb.out.trans ((hW1 ▸ hbw.out.trans (b2.out.mono hs1)).mono hb.out.size)⟩
end Go.Proofs.Ytnncomhgclffaaa.EV
