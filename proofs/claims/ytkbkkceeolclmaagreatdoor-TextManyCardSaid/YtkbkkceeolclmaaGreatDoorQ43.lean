/- The document's condition whose symbols are symbols. -/
import Derived.Test.YtkbkkceeolclmaaGreatDoorQ22
set_option linter.unusedVariables false
set_option linter.unusedSimpArgs false
namespace Go.Proofs.YtkbkkceeolclmaaGreatDoor.X
open Go.RowKit Go.TX Go.Proofs.YtkbkkceeolclmaaGreatDoorW.PrintWords Go.Proofs.YtkbkkceeolclmaaGreatDoorL
theorem ia790 (g : Nat) (w : World) : (Instr.indexAt 79 (.pointer (some ⟨g, 1, none⟩)) (.int .i64 0)).run Tryz.prog w = .ok (.pointer (some ⟨g, 1, none⟩)) w := by kernel_rfl
theorem ia791 (g : Nat) (w : World) : (Instr.indexAt 79 (.pointer (some ⟨g, 1, none⟩)) (.int .i64 1)).run Tryz.prog w = .ok (.pointer (some ⟨g, 3, none⟩)) w := by kernel_rfl
theorem ia792 (g : Nat) (w : World) : (Instr.indexAt 79 (.pointer (some ⟨g, 1, none⟩)) (.int .i64 2)).run Tryz.prog w = .ok (.pointer (some ⟨g, 5, none⟩)) w := by kernel_rfl
attribute [local go_sem high] ia790 ia791 ia792
theorem cutT_cut {t : Tm} (h : t.1 = false) (h2 : 4096 < t.2) : cutT t = (t.1, 4096) := by rw [cutT_not h, Int.min_eq_right (by omega)]
theorem cutT_stay {t : Tm} (h : t.1 = false) (h2 : ¬ 4096 < t.2) : cutT t = t := by rw [cutT_not h, Int.min_eq_left (by omega)]
theorem evI_f {b : Bool} (h : b = false) : evI b = 0 := by rw [h]; rfl
theorem evI_t {b : Bool} (h : b = true) : evI b = 1 := by rw [h]; rfl
/-- Eight cells written, one by one. -/
def set8 (w : World) (g : Nat) (v0 v1 v2 v3 v4 v5 v6 v7 : Value) : World :=
  (((((((w.setCell ⟨g, 0, none⟩ v0).setCell ⟨g, 1, none⟩ v1).setCell ⟨g, 2, none⟩ v2).setCell ⟨g, 3, none⟩ v3).setCell ⟨g, 4, none⟩ v4).setCell ⟨g, 5, none⟩ v5).setCell ⟨g, 6, none⟩ v6).setCell ⟨g, 7, none⟩ v7
theorem set8_blk {w : World} {g : Nat} {ty : TypeId} {a0 a1 a2 a3 a4 a5 a6 a7 v0 v1 v2 v3 v4 v5 v6 v7 : Value} (h : w.heap[g]? = some (.cells #[a0, a1, a2, a3, a4, a5, a6, a7] ty (0, 0))) :
    (set8 w g v0 v1 v2 v3 v4 v5 v6 v7).heap[g]? = some (.cells #[v0, v1, v2, v3, v4, v5, v6, v7] ty (0, 0)) := by
  have h0 := blk_put (cs' := #[v0, a1, a2, a3, a4, a5, a6, a7]) h 0 v0 (by simp)
  have h1 := blk_put (cs' := #[v0, v1, a2, a3, a4, a5, a6, a7]) h0 1 v1 (by simp)
  have h2 := blk_put (cs' := #[v0, v1, v2, a3, a4, a5, a6, a7]) h1 2 v2 (by simp)
  have h3 := blk_put (cs' := #[v0, v1, v2, v3, a4, a5, a6, a7]) h2 3 v3 (by simp)
  have h4 := blk_put (cs' := #[v0, v1, v2, v3, v4, a5, a6, a7]) h3 4 v4 (by simp)
  have h5 := blk_put (cs' := #[v0, v1, v2, v3, v4, v5, a6, a7]) h4 5 v5 (by simp)
  have h6 := blk_put (cs' := #[v0, v1, v2, v3, v4, v5, v6, a7]) h5 6 v6 (by simp)
  have h7 := blk_put (cs' := #[v0, v1, v2, v3, v4, v5, v6, v7]) h6 7 v7 (by simp)
  exact h7
theorem set8_below {w0 w : World} {B g : Nat} {v0 v1 v2 v3 v4 v5 v6 v7 : Value} (h : Below B w0 w) (hg : B ≤ g) : Below B w0 (set8 w g v0 v1 v2 v3 v4 v5 v6 v7) :=
  (((((((h.setCell (p := ⟨g, 0, none⟩) hg v0).setCell (p := ⟨g, 1, none⟩) hg v1).setCell (p := ⟨g, 2, none⟩) hg v2).setCell (p := ⟨g, 3, none⟩) hg v3).setCell (p := ⟨g, 4, none⟩) hg v4).setCell (p := ⟨g, 5, none⟩) hg v5).setCell (p := ⟨g, 6, none⟩) hg v6).setCell (p := ⟨g, 7, none⟩) hg v7
theorem set8_BR {w : World} {n g : Nat} {v : Value} {l : List Cd} {v0 v1 v2 v3 v4 v5 v6 v7 : Value} (h : BR n w v l) (hg : g < n) : BR n (set8 w g v0 v1 v2 v3 v4 v5 v6 v7) v l :=
  (((((((h.set (p := ⟨g, 0, none⟩) hg v0).set (p := ⟨g, 1, none⟩) hg v1).set (p := ⟨g, 2, none⟩) hg v2).set (p := ⟨g, 3, none⟩) hg v3).set (p := ⟨g, 4, none⟩) hg v4).set (p := ⟨g, 5, none⟩) hg v5).set (p := ⟨g, 6, none⟩) hg v6).set (p := ⟨g, 7, none⟩) hg v7
theorem frz8 {w : World} {g : Nat} {cs : Array Value} {ty : TypeId} (h : w.heap[g]? = some (.cells cs ty (0, 0))) : w.frozen? ⟨g, 0, none⟩ = false ∧ w.frozen? ⟨g, 1, none⟩ = false ∧ w.frozen? ⟨g, 2, none⟩ = false ∧ w.frozen? ⟨g, 3, none⟩ = false ∧ w.frozen? ⟨g, 4, none⟩ = false ∧ w.frozen? ⟨g, 5, none⟩ = false ∧ w.frozen? ⟨g, 6, none⟩ = false ∧ w.frozen? ⟨g, 7, none⟩ = false :=
  ⟨blk_frozen h 0, blk_frozen h 1, blk_frozen h 2, blk_frozen h 3, blk_frozen h 4, blk_frozen h 5, blk_frozen h 6, blk_frozen h 7⟩
set_option maxRecDepth 100000 in
set_option maxHeartbeats 8000000 in
theorem dheld_walk (n : Nat) : ∀ (k : Int) (a b c : Tm) (subs : List Cd) (A : Option Addr) (cap : Nat) (w : World) (F : Nat → Prop), csizeL subs < n → n ≤ 1000000 → RepL evR w F subs A 0 →
    Calls Tryz.prog 43 #[aC evR k a b c (.slice A subs.length cap)] w fun e W => ∃ S, e = .returned (aC evR k (cutT a) (cutT b) (cutT c) S) ∧ Below w.heap.size w W ∧ BR w.heap.size W S (heldL subs) := by
  induction n with
  | zero => intro k a b c subs A cap w F h; omega
  | succ n ih =>
    intro k a b c subs A cap w F hn hn1 hR
    obtain ⟨i0, hi, hz0, hz1, hz2⟩ := info_parts info81
    replace hi := Aside0.mk hi
    replace hz0 := Aside0.mk hz0
    replace hz1 := Aside0.mk hz1
    replace hz2 := Aside0.mk hz2
    have hlen := csizeL_len subs
    have hmax : 1000000 ≤ maxLen := by decide
    have hB0 := Aside0.mk (((Below.refl w.heap.size w).alloc (Nat.le_refl _) (oC evR 81 k a b c (.slice A subs.length cap))).alloc (by simp) z81)
    have hp0 := Aside0.mk (blk_alloc (blk_new w (oC evR 81 k a b c (.slice A subs.length cap))) z81)
    have ho0 := blk_new (w.alloc (oC evR 81 k a b c (.slice A subs.length cap))) z81
    simp only [World.size_alloc] at ho0
    replace ho0 := Aside0.mk ho0
    have hzz := Aside0.mk (show ((w.alloc (oC evR 81 k a b c (.slice A subs.length cap))).alloc z81).heap.size = w.heap.size + 2 by simp)
    have hRb := Aside0.mk (RepL.bound subs A 0 hR)
    clear hR
    go_enter Tryz.func43, Tryz.ntmps43
    go_upto_region 1 with fail
    generalize (w.alloc (oC evR 81 k a b c (.slice A subs.length cap))).alloc z81 = W0 at hB0 hp0 ho0 hzz ⊢
    go_upto_region 2 with fail
    go_loopw [3] (fun i wr => ∃ (q : Nat) (bx : Obj), i = .int .i64 q ∧ q ≤ 3 ∧ [oC evR 81 k a b c (.slice A subs.length cap), oC evR 81 k (cutT a) b c (.slice A subs.length cap), oC evR 81 k (cutT a) (cutT b) c (.slice A subs.length cap), oC evR 81 k (cutT a) (cutT b) (cutT c) (.slice A subs.length cap)][q]? = some bx ∧ wr.heap[w.heap.size]? = some bx ∧ wr.heap[w.heap.size + 1]? = some z81 ∧ Below w.heap.size w wr ∧ w.heap.size + 2 ≤ wr.heap.size) (fun i _ => 3 - (intOf i).toNat)
    case atStart => exact ⟨0, _, rfl, by omega, rfl, hp0.out, ho0.out, hB0.out, Nat.le_of_eq hzz.out.symm⟩
    case round =>
      obtain ⟨q, bx, rfl, hq, hbx, hp, ho, hB, hsz⟩ := hrel
      clear hB0 hp0 ho0 hzz
      clear W0
      rcases (show q = 0 ∨ q = 1 ∨ q = 2 ∨ q = 3 by omega) with rfl | rfl | rfl | rfl
      · cases hbx
        have p0 := (blk_cell hp 1).trans (show _ = some (Value.int .i64 (evI a.1)) from rfl)
        have p1 := (blk_cell hp 2).trans (show _ = some (Value.int .i64 a.2) from rfl)
        have f1 := blk_frozen hp 2
        replace hp := Aside0.mk hp
        replace ho := Aside0.mk ho
        replace hB := Aside0.mk hB
        rw [show ((0 : Nat) : Int) = 0 from rfl]
        rcases (show a.1 = true ∨ a.1 = false by cases a.1 <;> simp) with hv | hv
        · have hcut := Aside0.mk (cutT_var hv)
          rw [evI_t hv] at p0
          clear hv
          go_wp2
          go_roundw
          case rel => exact ⟨1, _, rfl, by omega, rfl, by rw [hcut.out]; exact hp.out, ho.out, hB.out, hsz⟩
          case measure => simp [intOf]
        · rw [evI_f hv] at p0
          by_cases hbig : 4096 < a.2
          · have hcut := Aside0.mk (cutT_cut hv hbig)
            clear hv
            go_wp2
            go_roundw
            case rel => exact ⟨1, _, rfl, by omega, rfl, by rw [hcut.out]; exact blk_put hp.out 2 (.int .i64 4096) rfl, blk_far ho.out (p := ⟨w.heap.size, 2, none⟩) (by show w.heap.size + 1 ≠ w.heap.size; omega) _, hB.out.setCell (p := ⟨w.heap.size, 2, none⟩) (Nat.le_refl _) _, by simpa [World.setCell] using hsz⟩
            case measure => simp [intOf]
          · have hcut := Aside0.mk (cutT_stay hv hbig)
            clear hv
            go_wp2
            go_roundw
            case rel => exact ⟨1, _, rfl, by omega, rfl, by rw [hcut.out]; exact hp.out, ho.out, hB.out, hsz⟩
            case measure => simp [intOf]
      · cases hbx
        have p0 := (blk_cell hp 3).trans (show _ = some (Value.int .i64 (evI b.1)) from rfl)
        have p1 := (blk_cell hp 4).trans (show _ = some (Value.int .i64 b.2) from rfl)
        have f1 := blk_frozen hp 4
        replace hp := Aside0.mk hp
        replace ho := Aside0.mk ho
        replace hB := Aside0.mk hB
        rw [show ((1 : Nat) : Int) = 1 from rfl]
        rcases (show b.1 = true ∨ b.1 = false by cases b.1 <;> simp) with hv | hv
        · have hcut := Aside0.mk (cutT_var hv)
          rw [evI_t hv] at p0
          clear hv
          go_wp2
          go_roundw
          case rel => exact ⟨2, _, rfl, by omega, rfl, by rw [hcut.out]; exact hp.out, ho.out, hB.out, hsz⟩
          case measure => simp [intOf]
        · rw [evI_f hv] at p0
          by_cases hbig : 4096 < b.2
          · have hcut := Aside0.mk (cutT_cut hv hbig)
            clear hv
            go_wp2
            go_roundw
            case rel => exact ⟨2, _, rfl, by omega, rfl, by rw [hcut.out]; exact blk_put hp.out 4 (.int .i64 4096) rfl, blk_far ho.out (p := ⟨w.heap.size, 4, none⟩) (by show w.heap.size + 1 ≠ w.heap.size; omega) _, hB.out.setCell (p := ⟨w.heap.size, 4, none⟩) (Nat.le_refl _) _, by simpa [World.setCell] using hsz⟩
            case measure => simp [intOf]
          · have hcut := Aside0.mk (cutT_stay hv hbig)
            clear hv
            go_wp2
            go_roundw
            case rel => exact ⟨2, _, rfl, by omega, rfl, by rw [hcut.out]; exact hp.out, ho.out, hB.out, hsz⟩
            case measure => simp [intOf]
      · cases hbx
        have p0 := (blk_cell hp 5).trans (show _ = some (Value.int .i64 (evI c.1)) from rfl)
        have p1 := (blk_cell hp 6).trans (show _ = some (Value.int .i64 c.2) from rfl)
        have f1 := blk_frozen hp 6
        replace hp := Aside0.mk hp
        replace ho := Aside0.mk ho
        replace hB := Aside0.mk hB
        rw [show ((2 : Nat) : Int) = 2 from rfl]
        rcases (show c.1 = true ∨ c.1 = false by cases c.1 <;> simp) with hv | hv
        · have hcut := Aside0.mk (cutT_var hv)
          rw [evI_t hv] at p0
          clear hv
          go_wp2
          go_roundw
          case rel => exact ⟨3, _, rfl, by omega, rfl, by rw [hcut.out]; exact hp.out, ho.out, hB.out, hsz⟩
          case measure => simp [intOf]
        · rw [evI_f hv] at p0
          by_cases hbig : 4096 < c.2
          · have hcut := Aside0.mk (cutT_cut hv hbig)
            clear hv
            go_wp2
            go_roundw
            case rel => exact ⟨3, _, rfl, by omega, rfl, by rw [hcut.out]; exact blk_put hp.out 6 (.int .i64 4096) rfl, blk_far ho.out (p := ⟨w.heap.size, 6, none⟩) (by show w.heap.size + 1 ≠ w.heap.size; omega) _, hB.out.setCell (p := ⟨w.heap.size, 6, none⟩) (Nat.le_refl _) _, by simpa [World.setCell] using hsz⟩
            case measure => simp [intOf]
          · have hcut := Aside0.mk (cutT_stay hv hbig)
            clear hv
            go_wp2
            go_roundw
            case rel => exact ⟨3, _, rfl, by omega, rfl, by rw [hcut.out]; exact hp.out, ho.out, hB.out, hsz⟩
            case measure => simp [intOf]
      · cases hbx
        rw [show ((3 : Nat) : Int) = 3 from rfl]
        have p7 := (blk_cell hp 7).trans (show _ = some (Value.slice A subs.length cap) from rfl)
        replace hp := Aside0.mk hp
        replace ho := Aside0.mk ho
        replace hB := Aside0.mk hB
        obtain ⟨V, hV⟩ : ∃ V, V = wr := ⟨_, rfl⟩
        subst hV
        go_upto_region 8 with fail
        go_loopw [32, 4] (fun i v wr => ∃ (j : Nat), i = .int .i64 j ∧ j ≤ subs.length ∧ wr.heap[w.heap.size]? = some (oC evR 81 k (cutT a) (cutT b) (cutT c) (.slice A subs.length cap)) ∧ BR (w.heap.size + 2) wr v (heldL (subs.take j)) ∧ Below w.heap.size w wr ∧ wr.heap[w.heap.size + 1]? = some z81 ∧ w.heap.size + 2 ≤ wr.heap.size) (fun i _ _ => subs.length - (intOf i).toNat)
        case atStart => exact ⟨0, rfl, Nat.zero_le _, hp.out, BR.nil _ _, hB.out, ho.out, hsz⟩
        case round =>
          clear p7 hp ho hB hsz
          obtain ⟨j, rfl, hj, hgr, hbr, hBw, hor, hsz⟩ := hrel
          clear V
          have hll : (heldL (subs.take j)).length = j := by rw [heldL_len, List.length_take_of_le hj]
          obtain ⟨A', cp, e⟩ := hbr.form
          rw [hll] at e
          subst e
          by_cases hlt : j < subs.length
          · obtain ⟨b', o, k', x, y, z, subs', B, cap', rfl, hbl, hx, hlen', hR', htk, hle, c0, c1, c2, c3, c4, c5, c6, c7⟩ := sub_at (RepL.move (W := wr) _ _ _ hRb.out (fun b hb _ => hBw.block b hb.2)) hlt
            have hj0 : j + 1 ≤ 1000000 := by omega
            have hj1 : j + 1 ≤ maxLen := by omega
            have hj2 : (j + 1) * 80 ≤ 140737488355328 := by omega
            have hAB : Below wr.heap.size wr (wr.alloc (oC evR 81 k' x y z (.slice B subs'.length cap'))) := (Below.refl _ _).alloc (Nat.le_refl _) _
            have hBW := Aside0.mk (hBw.trans (hAB.mono hBw.size))
            have hRW := hR'.below hAB
            have hgW := Aside0.mk (blk_alloc hgr (oC evR 81 k' x y z (.slice B subs'.length cap')))
            have hoW := Aside0.mk (blk_alloc hor (oC evR 81 k' x y z (.slice B subs'.length cap')))
            have hxW := blk_new wr (oC evR 81 k' x y z (.slice B subs'.length cap'))
            have hbW := Aside0.mk (hbr.below hAB)
            have hown : Aside0 (∀ b, Value.ownBlock (.slice A' j cp) = some b → b < wr.heap.size) := by
              obtain ⟨css2, _, hco2, _⟩ := hbr
              exact ⟨fun b hb => (owner_lt hco2 hb).2⟩
            have hsW := Aside0.mk (Nat.le_trans hsz hAB.size)
            have hih := Aside0.mk (ih k' x y z subs' B cap' _ _ (by omega) (by omega) hRW)
            replace hx := Aside0.mk hx
            replace hlen' := Aside0.mk hlen'
            clear hgr hor hbr hBw hR' htk hle hRW
            go_upto_region 10 with fail
            have hzz := Aside0.mk hAB.size
            generalize wr.alloc (oC evR 81 k' x y z (.slice B subs'.length cap')) = W at hBW hgW hoW hxW hbW hsW hih hzz hAB ⊢
            clear c0 c1 c2 c3 c4 c5 c6 c7 hbl hAB
            obtain ⟨d0, d1, d2, d3, d4, d5, d6, d7⟩ := box8 hxW
            clear hxW
            go_wp2_with (first
              | (go_at_call 43; refine hih.out.mono ?_; rintro e w3 ⟨S3, rfl, hb3, hbr3⟩; obtain ⟨A3, c3, e3⟩ := hbr3.form; rw [heldL_len] at e3; subst e3; have hA4 := Aside0.mk ((Below.refl w3.heap.size w3).alloc (Nat.le_refl _) (oC evR 81 k' (cutT x) (cutT y) (cutT z) (.slice A3 subs'.length c3))); have hn4 := Aside0.mk (blk_new w3 (oC evR 81 k' (cutT x) (cutT y) (cutT z) (.slice A3 subs'.length c3))); have hb4 := (hbW.out.below hb3).below hA4.out; obtain ⟨css, hcl, hco, hcr⟩ := hb4; have hrep := Aside0.mk ((hbr3.below hA4.out).rep (k := k') (a := cutT x) (b := cutT y) (c := cutT z) (by rw [heldL_len]; exact hlen'.out)); have hz4 : w.heap.size + 2 ≤ (w3.alloc (oC evR 81 k' (cutT x) (cutT y) (cutT z) (.slice A3 subs'.length c3))).heap.size := Nat.le_trans hsW.out (Nat.le_trans hb3.size hA4.out.size); replace hb3 := Aside0.mk hb3; replace hbr3 := Aside0.mk hbr3; replace hcl := Aside0.mk hcl; replace hcr := Aside0.mk hcr; rw [hll] at hco; replace hco := Aside0.mk hco)
              | (at_builtin; refine wpList_append_own2 rfl _ _ 36 rfl (w.heap.size + 2) 81 i0 (aC evR 0 (false, 0) (false, 0) (false, 0) (.slice none 0 0)) 8 80 Tryz.underlying36 hi.out hz0.out hz1.out hz2.out rfl (by decide) _ j css.flatten rfl hco.out ⟨w3.heap.size, 0, none⟩ 1 1 [.int .i64 k', evR (cutT x).1, .int .i64 (cutT x).2, evR (cutT y).1, .int .i64 (cutT y).2, evR (cutT z).1, .int .i64 (cutT z).2, .slice A3 subs'.length c3] rfl (by decide) rfl (cells_at hn4.out) (by simp [Value.oneCell']) hj1 hj2 hz4 ?_; intro v5 w5 hown5 hgr5 hfr5; replace hown5 := Aside0.mk hown5; replace hgr5 := Aside0.mk hgr5; replace hfr5 := Aside0.mk hfr5))
            go_roundw
            case rel =>
              have hB1 := Aside0.mk (hb3.out.trans (hA4.out.mono hb3.out.size))
              have hnb : ∀ b, Value.ownBlock (.slice A' j cp) = some b → w.heap.size + 2 ≤ b := fun b e => (owner_lt hco.out e).1
              have stay : ∀ (b : Nat) (o : Obj), b < w.heap.size + 2 → W.heap[b]? = some o → w5.heap[b]? = some o := fun b o hb ho => (hgr5.out.block b (Nat.lt_of_lt_of_le (blk_lt ho) hB1.out.size) (fun e => by have := hnb b e.symm; omega)).trans ((hB1.out.block b (blk_lt ho)).trans ho)
              refine ⟨j + 1, by go_num, by omega, stay _ _ (by omega) hgW.out, ?_, ?_, stay _ _ (by omega) hoW.out, Nat.le_trans hsW.out (Nat.le_trans hB1.out.size hgr5.out.size)⟩
              · rw [List.take_succ_eq_append_getElem hlt, hx.out, heldL_app]
                exact BR.snoc (m := W.heap.size) (W := w3.alloc (oC evR 81 k' (cutT x) (cutT y) (cutT z) (.slice A3 subs'.length c3))) hcl.out (by rw [hll]; exact hco.out) hcr.out rfl hrep.out hsW.out (fun b e => Nat.lt_of_lt_of_le (hown.out b e) hzz.out) (by rw [hll]; exact hown5.out) hgr5.out hfr5.out
              · exact (hBW.out.trans (hB1.out.mono hBW.out.size)).grown hgr5.out (by have := hsW.out; have := hB1.out.size; omega) (fun b e => by have := hnb b e; omega)
            case measure => simp [intOf]; omega
          · obtain rfl : j = subs.length := by omega
            rw [List.take_length] at hbr
            replace hbr := Aside0.mk hbr
            have f7 := blk_frozen hgr 7
            have p7 := (blk_cell hgr 7).trans (show _ = some (Value.slice A subs.length cap) from rfl)
            replace hgr := Aside0.mk hgr
            replace hor := Aside0.mk hor
            replace hBw := Aside0.mk hBw
            go_upto_region 13 with fail
            clear f7 p7
            have hg9 := show _ = some (oC evR 81 k (cutT a) (cutT b) (cutT c) (.slice A' subs.length cp)) from blk_put hgr.out 7 (.slice A' subs.length cp) rfl
            have ho9 := blk_far hor.out (p := ⟨w.heap.size, 7, none⟩) (by show w.heap.size + 1 ≠ w.heap.size; omega) (.slice A' subs.length cp)
            have hb9 := Aside0.mk (hbr.out.set (p := ⟨w.heap.size, 7, none⟩) (by show w.heap.size < w.heap.size + 2; omega) (.slice A' subs.length cp))
            have hB9 := Aside0.mk (hBw.out.setCell (p := ⟨w.heap.size, 7, none⟩) (Nat.le_refl _) (.slice A' subs.length cp))
            generalize wr.setCell ⟨w.heap.size, 7, none⟩ (.slice A' subs.length cp) = X at hg9 ho9 hb9 hB9 ⊢
            obtain ⟨g0, g1, g2, g3, g4, g5, g6, g7⟩ := box8 hg9
            obtain ⟨q0, q1, q2, q3, q4, q5, q6, q7⟩ := box8 (ev := evR) (k := 0) (a := (false, 0)) (b := (false, 0)) (c := (false, 0)) (S := .slice none 0 0) ho9
            obtain ⟨f0, f1, f2, f3, f4, f5, f6, f7⟩ := frz8 ho9
            clear hg9
            replace ho9 := Aside0.mk ho9
            go_wp2
            have z := box8 (ev := evR) (k := k) (a := cutT a) (b := cutT b) (c := cutT c) (S := .slice A' subs.length cp) (t := 81) (set8_blk ho9.out)
            unfold set8 at z
            obtain ⟨z0, z1, z2, z3, z4, z5, z6, z7⟩ := z
            exact bodyPost_ret (v := aC evR k (cutT a) (cutT b) (cutT c) (.slice A' subs.length cp)) (by simp [results, Tryz.results43, go_sem, z0, z1, z2, z3, z4, z5, z6, z7]) rfl ⟨_, rfl, set8_below hB9.out (Nat.le_succ _), (set8_BR hb9.out (by omega)).base (by omega)⟩
end Go.Proofs.YtkbkkceeolclmaaGreatDoor.X
