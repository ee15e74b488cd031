/- The walk of the document's key of a text. -/
import Derived.Test.YtfgnpplnjgjjkaaDoorTRParse
import Derived.Test.YtfgnpplnjgjjkaaDoorKYn
namespace Go.Proofs.YtfgnpplnjgjjkaaDoor.T
open Go.RowKit Go.Lib Go.Proofs.YtfgnpplnjgjjkaaDoorW.PrintWords Go.Proofs.YtfgnpplnjgjjkaaDoor.K

attribute [local go_sem high] build22 build22z

def nv (x : ByteArray) : Int := if x.data.toList = [42] then 0 else number x.data.toList
def NOk (x : ByteArray) : Prop := x.data.toList = [42] ∨ (1 ≤ number x.data.toList ∧ number x.data.toList ≤ 4096)
def ncs (xs : Nat → ByteArray) (k : Nat) : Array Value := #[.int .i64 (if 0 < k then nv (xs 0) else 0), .int .i64 (if 1 < k then nv (xs 1) else 0), .int .i64 (if 2 < k then nv (xs 2) else 0)]
theorem ncs_next (xs : Nat → ByteArray) {k : Nat} (h : k < 3) : (ncs xs k).setIfInBounds k (.int .i64 (nv (xs k))) = ncs xs (k + 1) := by
  obtain rfl | rfl | rfl : k = 0 ∨ k = 1 ∨ k = 2 := by omega
  all_goals rfl
theorem ncs_star (xs : Nat → ByteArray) {k : Nat} (h : k < 3) (hz : nv (xs k) = 0) : ncs xs (k + 1) = ncs xs k := by
  obtain rfl | rfl | rfl : k = 0 ∨ k = 1 ∨ k = 2 := by omega
  all_goals simp [ncs, hz]
theorem ncs_cell (xs : Nat → ByteArray) {k : Nat} (h : k < 3) : (ncs xs k)[k]? = some (.int .i64 0) := by
  obtain rfl | rfl | rfl : k = 0 ∨ k = 1 ∨ k = 2 := by omega
  all_goals rfl

set_option maxRecDepth 100000 in
theorem krefParse_len (s : ByteArray) (hs : s.size ≤ 1000) (hn : (pieces s).length ≠ 3) (w : World) :
    Calls Tryd.prog 33 #[.string s] w fun e w' => e = .returned no3 ∧ Below w.heap.size w w' := by
  have HW := Aside0.mk (fun w => refWords_any s hs w)
  unfold WordsPost at HW
  obtain ⟨n, hnn⟩ : ∃ n, (pieces s).length = n := ⟨_, rfl⟩
  have hlt : n ≤ 1001 := by
    rw [← hnn, ← pieces_len]
    have := countB_le (str [32]) (by decide) s.size s (Nat.le_refl _)
    omega
  rw [hnn] at hn
  have hb : ((n : Int) != 3) = true := by simp; omega
  have hq := Aside0.mk (blk_new w (.cells zero3 22))
  replace hnn := Aside0.mk hnn
  clear hn
  go_enter Tryd.func33, Tryd.ntmps33
  go_wp2_with (go_at_call 43; refine (HW.out _).mono ?_; rintro e w1 ⟨v, rfl, hR, hbb⟩; obtain ⟨A, c, rfl⟩ := Kd.R_slice hR; rw [hnn.out]; have hk3 := blk_below hq.out hbb; have y0 : w1.cell? ⟨w.heap.size, 0, none⟩ = some (.int .i64 0) := (blk_cell hk3 0).trans rfl; have y1 : w1.cell? ⟨w.heap.size, 1, none⟩ = some (.int .i64 0) := (blk_cell hk3 1).trans rfl; have y2 : w1.cell? ⟨w.heap.size, 2, none⟩ = some (.int .i64 0) := (blk_cell hk3 2).trans rfl; have z0 := blk_frozen hk3 0; have z1 := blk_frozen hk3 1; have z2 := blk_frozen hk3 2; have hB3 := ((Below.refl w.heap.size w).alloc (Nat.le_refl _) (.cells zero3 22)).trans (hbb.mono (by rw [World.size_alloc]; omega)); replace hB3 := Aside0.mk hB3; replace hk3 := Aside0.mk hk3; clear hR hbb)
  have hput := blk_put (cs' := zero3) (blk_put (cs' := zero3) (blk_put (cs' := zero3) hk3.out 0 (.int .i64 0) rfl) 1 (.int .i64 0) rfl) 2 (.int .i64 0) rfl
  have r0 := (blk_cell hput 0).trans (show _ = some (Value.int .i64 0) from rfl)
  have r1 := (blk_cell hput 1).trans (show _ = some (Value.int .i64 0) from rfl)
  have r2 := (blk_cell hput 2).trans (show _ = some (Value.int .i64 0) from rfl)
  refine bodyPost_ret (v := no3) (by simp [results, Tryd.results33, go_sem, r0, r1, r2]) rfl ⟨rfl, ?_⟩
  exact (((hB3.out.setCell (p := ⟨w.heap.size, 0, none⟩) (Nat.le_refl _) _).setCell (p := ⟨w.heap.size, 1, none⟩) (Nat.le_refl _) _).setCell (p := ⟨w.heap.size, 2, none⟩) (Nat.le_refl _) _)

/-- What stands while the words are read. -/
def NB (w : World) (rb tb g : Nat) (xs : Nat → ByteArray) (k : Nat) (W : World) : Prop :=
  W.heap[rb]? = some (.cells zero3 22 (0, 0)) ∧ W.heap[tb]? = some (.cells (ncs xs k) 22 (0, 0)) ∧ (∀ j, j < 3 → W.cell? ⟨g, j, none⟩ = some (.string (xs j))) ∧ Below w.heap.size w W ∧ w.heap.size ≤ W.heap.size
theorem NB.keep {w W W' : World} {rb tb g : Nat} {xs : Nat → ByteArray} {k : Nat} (h : NB w rb tb g xs k W) (hb : Below W.heap.size W W') : NB w rb tb g xs k W' :=
  ⟨blk_below h.1 hb, blk_below h.2.1 hb, fun j hj => (hb.cell (World.block_lt_of_cell? _ _ (h.2.2.1 j hj))).trans (h.2.2.1 j hj), h.2.2.2.1.trans (hb.mono h.2.2.2.2), Nat.le_trans h.2.2.2.2 hb.size⟩
theorem NB.next {w W : World} {rb tb g : Nat} {xs : Nat → ByteArray} {k : Nat} (h : NB w rb tb g xs k W) (hk : k < 3) (h1 : w.heap.size ≤ tb) (n1 : rb ≠ tb) (n2 : g ≠ tb) : NB w rb tb g xs (k + 1) (W.setCell ⟨tb, k, none⟩ (.int .i64 (nv (xs k)))) := by
  have hB := h.2.2.2.1.setCell (p := ⟨tb, k, none⟩) h1 (.int .i64 (nv (xs k)))
  exact ⟨blk_far h.1 n1 _, blk_put h.2.1 k _ (ncs_next xs hk), fun j hj => (World.cell?_setCell_other _ _ _ _ (by intro e; first | exact n2 (congrArg Addr.block e) | exact n2 (congrArg Addr.block e).symm)).trans (h.2.2.1 j hj), hB, hB.size⟩
theorem NB.star {w W : World} {rb tb g : Nat} {xs : Nat → ByteArray} {k : Nat} (h : NB w rb tb g xs k W) (hk : k < 3) (hz : nv (xs k) = 0) : NB w rb tb g xs (k + 1) W :=
  ⟨h.1, by rw [ncs_star xs hk hz]; exact h.2.1, h.2.2⟩

def NPost (w : World) (xs : Nat → ByteArray) (e : Ending) (w' : World) : Prop :=
  (((∀ j, j < 3 → NOk (xs j)) → e = .returned (.tuple #[.agg #[.int .i64 (nv (xs 0)), .int .i64 (nv (xs 1)), .int .i64 (nv (xs 2))], .bool true])) ∧ (¬ (∀ j, j < 3 → NOk (xs j)) → e = .returned no3)) ∧ Below w.heap.size w w'

set_option maxHeartbeats 4000000 in
set_option maxRecDepth 100000 in
theorem krefParse_three (s : ByteArray) (hs : s.size ≤ 1000) (xs : Nat → ByteArray) (hp : pieces s = [xs 0, xs 1, xs 2]) (w : World) :
    Calls Tryd.prog 33 #[.string s] w (NPost w xs) := by
  have HW := Aside0.mk (fun w => refWords_any s hs w)
  unfold WordsPost at HW
  rw [hp] at HW
  have hq := Aside0.mk (blk_new w (.cells zero3 22))
  clear hp hs
  go_enter Tryd.func33, Tryd.ntmps33
  go_wp2_with (go_at_call 43; refine (HW.out _).mono ?_; rintro e w1 ⟨v, rfl, hR, hbb⟩; obtain ⟨g, cap, rfl, hg1, hg2, -⟩ := Kd.R_form hR (by simp); have hk3 := blk_below hq.out hbb; have g0 := (Kd.R_cell ByteArray.empty hR 0 (by omega) (by simp)).1; have g1 := (Kd.R_cell ByteArray.empty hR 1 (by omega) (by simp)).1; have g2 := (Kd.R_cell ByteArray.empty hR 2 (by omega) (by simp)).1; have hB3 := ((Below.refl w.heap.size w).alloc (Nat.le_refl _) (.cells zero3 22)).trans (hbb.mono (by rw [World.size_alloc]; omega)); have hG := Aside0.mk (show (∀ j, j < 3 → w1.cell? ⟨g, j, none⟩ = some (.string (xs j))) ∧ g < w1.heap.size ∧ w.heap.size < w1.heap.size from ⟨fun j hj => (by obtain rfl | rfl | rfl : j = 0 ∨ j = 1 ∨ j = 2 := (by omega); exact g0; exact g1; exact g2), hg2, Nat.lt_of_lt_of_le (by rw [World.size_alloc]; omega) hbb.size⟩); replace hk3 := Aside0.mk hk3; replace hB3 := Aside0.mk hB3; clear hR hbb g0 g1 g2 hg1 hg2)
  have hI : NB w w.heap.size w1.heap.size g xs 0 (w1.alloc (.cells zero3 22)) :=
    ⟨blk_alloc hk3.out _, blk_new _ _, fun j hj => (((Below.refl w1.heap.size w1).alloc (Nat.le_refl _) (.cells zero3 22)).cell hG.out.2.1).trans (hG.out.1 j hj), hB3.out.alloc hB3.out.size _, Nat.le_trans hB3.out.size (by rw [World.size_alloc]; omega)⟩
  have n1 : w.heap.size ≠ w1.heap.size := by have := hG.out.2.2; omega
  have n2 : g ≠ w1.heap.size := by have := hG.out.2.1; omega
  have l1 : w.heap.size ≤ w1.heap.size := hB3.out.size
  generalize w1.alloc (.cells zero3 22) = W0 at hI ⊢
  generalize w1.heap.size = tb at hI n1 n2 l1 ⊢
  clear hG hk3 hB3 hq HW
  obtain ⟨rb, hrb⟩ : ∃ q, w.heap.size = q := ⟨_, rfl⟩
  have l0 : w.heap.size ≤ rb := by omega
  rw [hrb] at n1 ⊢
  replace hI := Aside0.mk (show NB w rb tb g xs 0 W0 from hrb ▸ hI)
  replace hrb := Aside0.mk hrb
  replace n1 := Aside0.mk n1
  replace n2 := Aside0.mk n2
  replace l0 := Aside0.mk l0
  replace l1 := Aside0.mk l1
  go_loopw [6] (fun i wr => ∃ k : Nat, i = .int .i64 k ∧ k ≤ 3 ∧ (∀ j, j < k → NOk (xs j)) ∧ NB w rb tb g xs k wr) (fun i _ => 3 - (RowKit.intOf i).toNat)
  case atStart => exact ⟨0, rfl, by omega, fun _ h => absurd h (by omega), hI.out⟩
  case round =>
    clear hI
    obtain ⟨k, rfl, hk, hall, hI⟩ := hrel
    replace hall := Aside0.mk hall
    by_cases hlt : k < 3
    · have i0 : (0 : Int) ≤ (k : Int) := by omega
      have i1 : (k : Int) < 3 := by omega
      have c0 := hI.2.2.1 k hlt
      replace hI := Aside0.mk hI
      by_cases hst : (xs k).data.toList = [42]
      · have hvk : nv (xs k) = 0 := by simp [nv, hst]
        have hx42 : xs k = ⟨#[42]⟩ := by rw [← str_toList (xs k), hst]
        rw [hx42] at c0
        have hn := Aside0.mk (hI.out.star hlt hvk)
        replace hst := Aside0.mk hst
        clear hvk hx42
        go_wp2_with fail
        go_roundw
        case rel =>
          refine ⟨k + 1, by go_num, by omega, ?_, hn.out⟩
          intro j hj
          by_cases e : j = k
          · subst e; exact .inl hst.out
          · exact hall.out j (by omega)
        case measure => simp [RowKit.intOf]; omega
      · have hsb : ((xs k).toList == [42]) = false := beq_eq_false_iff_ne.2 (by rw [ByteArray.toList_eq]; exact hst)
        have hkv : nv (xs k) = number (xs k).data.toList := by simp [nv, hst]
        have HC := Aside0.mk (fun w => refNumber_any (xs k) w)
        have hnn : NOk (xs k) ↔ (1 ≤ number (xs k).data.toList ∧ number (xs k).data.toList ≤ 4096) := ⟨fun h => h.elim (fun h => absurd h hst) id, .inr⟩
        replace hnn := Aside0.mk hnn
        replace hst := Aside0.mk hst
        have hnext := Aside0.mk (fun W (h : NB w rb tb g xs k W) => h.next hlt l1.out n1.out n2.out)
        rw [hkv] at hnext
        clear hkv
        generalize hnum : number (xs k).data.toList = n at HC hnn hnext
        replace hnum := Aside0.mk hnum
        generalize hxk : xs k = xk at c0 hsb HC
        replace hxk := Aside0.mk hxk
        go_upto_region 10 with (go_at_call 44; refine (HC.out _).mono ?_; rintro e w2 ⟨rfl, hb⟩; have hI2 := hI.out.keep hb; have c1 : w2.cell? ⟨tb, k, none⟩ = some (.int .i64 0) := (blk_cell hI2.2.1 k).trans (ncs_cell xs hlt); have z1 := blk_frozen hI2.2.1 k; replace hI2 := Aside0.mk hI2; clear hb)
        have hI3 := hnext.out w2 hI2.out
        have d1 : (w2.setCell ⟨tb, k, none⟩ (.int .i64 n)).cell? ⟨tb, k, none⟩ = some (.int .i64 n) := World.cell?_setCell_same' _ _ _ (by rw [c1]; rfl)
        clear c0 c1 z1 hI hI2 HC hnext
        generalize w2.setCell ⟨tb, k, none⟩ (.int .i64 n) = W3 at hI3 d1 ⊢
        by_cases h1 : n < 1
        · have hbad : ¬ NOk (xs k) := fun h => by have := hnn.out.1 h; omega
          replace hbad := Aside0.mk hbad
          have y0 : W3.cell? ⟨rb, 0, none⟩ = some (.int .i64 0) := (blk_cell hI3.1 0).trans rfl
          have y1 : W3.cell? ⟨rb, 1, none⟩ = some (.int .i64 0) := (blk_cell hI3.1 1).trans rfl
          have y2 : W3.cell? ⟨rb, 2, none⟩ = some (.int .i64 0) := (blk_cell hI3.1 2).trans rfl
          have z0 := blk_frozen hI3.1 0
          have z1 := blk_frozen hI3.1 1
          have z2 := blk_frozen hI3.1 2
          replace hI3 := Aside0.mk hI3
          go_wp2_with fail
          have hput := blk_put (cs' := #[Value.int .i64 0, Value.int .i64 0, Value.int .i64 0]) (blk_put (cs' := #[Value.int .i64 0, Value.int .i64 0, .int .i64 0]) (blk_put (cs' := #[Value.int .i64 0, .int .i64 0, .int .i64 0]) hI3.out.1 0 (Value.int .i64 0) rfl) 1 (Value.int .i64 0) rfl) 2 (Value.int .i64 0) rfl
          have r0 := (blk_cell hput 0).trans (show _ = some (Value.int .i64 0) from rfl)
          have r1 := (blk_cell hput 1).trans (show _ = some (Value.int .i64 0) from rfl)
          have r2 := (blk_cell hput 2).trans (show _ = some (Value.int .i64 0) from rfl)
          refine bodyPost_ret (v := no3) (by simp [results, Tryd.results33, go_sem, r0, r1, r2]) rfl ⟨⟨fun h => absurd (h k hlt) hbad.out, fun _ => rfl⟩, ?_⟩
          exact (((hI3.out.2.2.2.1.setCell (p := ⟨rb, 0, none⟩) l0.out _).setCell (p := ⟨rb, 1, none⟩) l0.out _).setCell (p := ⟨rb, 2, none⟩) l0.out _)
        · by_cases h2 : 4096 < n
          · have hbad : ¬ NOk (xs k) := fun h => by have := hnn.out.1 h; omega
            replace hbad := Aside0.mk hbad
            have y0 : W3.cell? ⟨rb, 0, none⟩ = some (.int .i64 0) := (blk_cell hI3.1 0).trans rfl
            have y1 : W3.cell? ⟨rb, 1, none⟩ = some (.int .i64 0) := (blk_cell hI3.1 1).trans rfl
            have y2 : W3.cell? ⟨rb, 2, none⟩ = some (.int .i64 0) := (blk_cell hI3.1 2).trans rfl
            have z0 := blk_frozen hI3.1 0
            have z1 := blk_frozen hI3.1 1
            have z2 := blk_frozen hI3.1 2
            replace hI3 := Aside0.mk hI3
            go_wp2_with fail
            have hput := blk_put (cs' := #[Value.int .i64 0, Value.int .i64 0, Value.int .i64 0]) (blk_put (cs' := #[Value.int .i64 0, Value.int .i64 0, .int .i64 0]) (blk_put (cs' := #[Value.int .i64 0, .int .i64 0, .int .i64 0]) hI3.out.1 0 (Value.int .i64 0) rfl) 1 (Value.int .i64 0) rfl) 2 (Value.int .i64 0) rfl
            have r0 := (blk_cell hput 0).trans (show _ = some (Value.int .i64 0) from rfl)
            have r1 := (blk_cell hput 1).trans (show _ = some (Value.int .i64 0) from rfl)
            have r2 := (blk_cell hput 2).trans (show _ = some (Value.int .i64 0) from rfl)
            refine bodyPost_ret (v := no3) (by simp [results, Tryd.results33, go_sem, r0, r1, r2]) rfl ⟨⟨fun h => absurd (h k hlt) hbad.out, fun _ => rfl⟩, ?_⟩
            exact (((hI3.out.2.2.2.1.setCell (p := ⟨rb, 0, none⟩) l0.out _).setCell (p := ⟨rb, 1, none⟩) l0.out _).setCell (p := ⟨rb, 2, none⟩) l0.out _)
          · have hgood : NOk (xs k) := hnn.out.2 (by omega)
            replace hgood := Aside0.mk hgood
            replace hI3 := Aside0.mk hI3
            go_wp2_with fail
            go_roundw
            case rel =>
              refine ⟨k + 1, by go_num, by omega, ?_, hI3.out⟩
              intro j hj
              by_cases e : j = k
              · subst e; exact hgood.out
              · exact hall.out j (by omega)
            case measure => simp [RowKit.intOf]; omega
    · obtain rfl : k = 3 := by omega
      have t0 : wr.cell? ⟨tb, 0, none⟩ = some (.int .i64 (nv (xs 0))) := (blk_cell hI.2.1 0).trans rfl
      have t1 : wr.cell? ⟨tb, 1, none⟩ = some (.int .i64 (nv (xs 1))) := (blk_cell hI.2.1 1).trans rfl
      have t2 : wr.cell? ⟨tb, 2, none⟩ = some (.int .i64 (nv (xs 2))) := (blk_cell hI.2.1 2).trans rfl
      have y0 : wr.cell? ⟨rb, 0, none⟩ = some (.int .i64 0) := (blk_cell hI.1 0).trans rfl
      have y1 : wr.cell? ⟨rb, 1, none⟩ = some (.int .i64 0) := (blk_cell hI.1 1).trans rfl
      have y2 : wr.cell? ⟨rb, 2, none⟩ = some (.int .i64 0) := (blk_cell hI.1 2).trans rfl
      have z0 := blk_frozen hI.1 0
      have z1 := blk_frozen hI.1 1
      have z2 := blk_frozen hI.1 2
      replace hI := Aside0.mk hI
      go_wp2_with fail
      have hput := blk_put (cs' := #[Value.int .i64 (nv (xs 0)), Value.int .i64 (nv (xs 1)), Value.int .i64 (nv (xs 2))]) (blk_put (cs' := #[Value.int .i64 (nv (xs 0)), Value.int .i64 (nv (xs 1)), .int .i64 0]) (blk_put (cs' := #[Value.int .i64 (nv (xs 0)), .int .i64 0, .int .i64 0]) hI.out.1 0 (Value.int .i64 (nv (xs 0))) rfl) 1 (Value.int .i64 (nv (xs 1))) rfl) 2 (Value.int .i64 (nv (xs 2))) rfl
      have r0 := (blk_cell hput 0).trans (show _ = some (Value.int .i64 (nv (xs 0))) from rfl)
      have r1 := (blk_cell hput 1).trans (show _ = some (Value.int .i64 (nv (xs 1))) from rfl)
      have r2 := (blk_cell hput 2).trans (show _ = some (Value.int .i64 (nv (xs 2))) from rfl)
      refine bodyPost_ret (v := .tuple #[.agg #[.int .i64 (nv (xs 0)), .int .i64 (nv (xs 1)), .int .i64 (nv (xs 2))], .bool true]) (by simp [results, Tryd.results33, go_sem, r0, r1, r2]) rfl ⟨⟨fun _ => rfl, fun h => absurd hall.out h⟩, ?_⟩
      exact (((hI.out.2.2.2.1.setCell (p := ⟨rb, 0, none⟩) l0.out _).setCell (p := ⟨rb, 1, none⟩) l0.out _).setCell (p := ⟨rb, 2, none⟩) l0.out _)
end Go.Proofs.YtfgnpplnjgjjkaaDoor.T
