/- The walk of layer 2: the triple of a text. -/
import Derived.Test.YtfgnpplnjgjjkaaDoorTText
namespace Go.Proofs.YtfgnpplnjgjjkaaDoor.T
open Go.RowKit Go.Lib Go.Proofs.YtfgnpplnjgjjkaaDoorW.PrintWords Go.Proofs.YtfgnpplnjgjjkaaDoor.K

attribute [local go_sem high] build23z

abbrev zero3 : Array Value := #[.int .i64 0, .int .i64 0, .int .i64 0]
abbrev bad3 : Value := .tuple #[.agg #[.int .i64 0, .int .i64 0, .int .i64 0], .int .i64 14]

theorem below_three (w : World) (a b c : Obj) : Below w.heap.size w (((w.alloc a).alloc b).alloc c) := (below_two w a b).alloc (by rw [World.size_alloc, World.size_alloc]; omega) _

theorem split_as (s : ByteArray) (hs : s.size ≤ 100) {n : Nat} {cs : Array Value} (hn : (pieces s).length = n) (hc : ((pieces s).map Value.string).toArray = cs) (w : World) (hE : Env w) :
    Calls Tryd.prog 41 #[.string s, .string ⟨#[32]⟩] w fun e w' => e = .returned (.slice (some ⟨w.heap.size, 0, none⟩) n n) ∧ w' = w.alloc (.cells cs 9) := by
  subst hn hc
  exact split_any s hs w hE

set_option maxHeartbeats 1000000 in
set_option maxRecDepth 100000 in
theorem parse_len (s : ByteArray) (hs : s.size ≤ 100) (hn : (pieces s).length ≠ 3) (w : World) (hE : Env w) :
    Calls Tryd.prog 27 #[.string s] w fun e w' => e = .returned bad3 ∧ Below w.heap.size w w' := by
  obtain ⟨n, hn'⟩ : ∃ n, (pieces s).length = n := ⟨_, rfl⟩
  obtain ⟨cs, hc⟩ : ∃ cs, ((pieces s).map Value.string).toArray = cs := ⟨_, rfl⟩
  have hlt : n ≤ 101 := by
    rw [← hn', ← pieces_len]
    have := countB_le (str [32]) (by decide) s.size s (Nat.le_refl _)
    omega
  rw [hn'] at hn
  have HC := Aside0.mk (fun w h => split_as s hs hn' hc w h)
  have hb : ((n : Int) != 3) = true := by simp; omega
  have HE := Aside0.mk (hE.below (below_two w (.cells zero3 23) (.cells zero3 23)))
  clear hn hE hs hn' hc
  go_enter Tryd.func27, Tryd.ntmps27
  go_wp2_with (go_at_call 41; refine (HC.out _ HE.out).mono ?_; rintro e w1 ⟨rfl, rfl⟩)
  refine bodyPost_ret (v := bad3) (by simp [results, Tryd.results27, go_sem]) rfl ⟨rfl, ?_⟩
  exact below_three w _ _ _

/-- What a word is read as. -/
def wv (x : ByteArray) : Int := match atoiAll x.data.toList with
  | .ok v => v
  | _ => 0
theorem wv_ok {x : ByteArray} {v : Int} (h : atoiAll x.data.toList = .ok v) : wv x = v := by simp [wv, h]
/-- The numbers of the first k words. -/
def tcs (xs : Nat → ByteArray) (k : Nat) : Array Value := #[.int .i64 (if 0 < k then wv (xs 0) else 0), .int .i64 (if 1 < k then wv (xs 1) else 0), .int .i64 (if 2 < k then wv (xs 2) else 0)]
theorem tcs_next (xs : Nat → ByteArray) {k : Nat} (h : k < 3) : (tcs xs k).setIfInBounds k (.int .i64 (wv (xs k))) = tcs xs (k + 1) := by
  rcases k with _ | _ | _ | k
  · rfl
  · rfl
  · rfl
  · omega
theorem tcs_cell (xs : Nat → ByteArray) {k : Nat} (h : k < 3) : (tcs xs k)[k]? = some (.int .i64 0) := by
  rcases k with _ | _ | _ | k
  · rfl
  · rfl
  · rfl
  · omega
theorem xs_cell (xs : Nat → ByteArray) {k : Nat} (h : k < 3) : (#[Value.string (xs 0), .string (xs 1), .string (xs 2)])[k]? = some (.string (xs k)) := by
  rcases k with _ | _ | _ | k
  · rfl
  · rfl
  · rfl
  · omega

/-- What stands while the words are read. -/
def PB (w : World) (rb tb pb : Nat) (xs : Nat → ByteArray) (k : Nat) (W : World) : Prop :=
  W.heap[rb]? = some (.cells zero3 23 (0, 0)) ∧ W.heap[tb]? = some (.cells (tcs xs k) 23 (0, 0)) ∧ W.heap[pb]? = some (.cells #[.string (xs 0), .string (xs 1), .string (xs 2)] 9 (0, 0)) ∧ Below w.heap.size w W ∧ w.heap.size ≤ W.heap.size ∧ Env W
theorem PB.keep {w W W' : World} {rb tb pb : Nat} {xs : Nat → ByteArray} {k : Nat} (h : PB w rb tb pb xs k W) (hb : Below W.heap.size W W') : PB w rb tb pb xs k W' :=
  ⟨blk_below h.1 hb, blk_below h.2.1 hb, blk_below h.2.2.1 hb, h.2.2.2.1.trans (hb.mono h.2.2.2.2.1), Nat.le_trans h.2.2.2.2.1 hb.size, h.2.2.2.2.2.below hb⟩
theorem env_set {w0 w : World} (h0 : Env w0) (hb : Below w0.heap.size w0 w) : Env w := h0.below hb
theorem PB.next {w W : World} {rb tb pb : Nat} {xs : Nat → ByteArray} {k : Nat} (h : PB w rb tb pb xs k W) (h0 : Env w) (hk : k < 3) (h1 : w.heap.size ≤ tb) (n1 : rb ≠ tb) (n2 : pb ≠ tb) : PB w rb tb pb xs (k + 1) (W.setCell ⟨tb, k, none⟩ (.int .i64 (wv (xs k)))) := by
  have hB := h.2.2.2.1.setCell (p := ⟨tb, k, none⟩) h1 (.int .i64 (wv (xs k)))
  exact ⟨blk_far h.1 n1 _, blk_put h.2.1 k _ (tcs_next xs hk), blk_far h.2.2.1 n2 _, hB, hB.size, h0.below hB⟩

theorem toList_inj {a b : ByteArray} (h : a.toList = b.toList) : a = b := by
  rw [ByteArray.toList_eq, ByteArray.toList_eq] at h
  rw [← str_toList a, ← str_toList b, h]
/-- How the three words end: a triple, or none. -/
def P3 (xs : Nat → ByteArray) (s : ByteArray) : Prop := (∀ j, j < 3 → ∃ v, atoiAll (xs j).data.toList = .ok v) ∧ rightR 1 (wv (xs 0)) (wv (xs 1)) (wv (xs 2)) = true ∧ str (text3 (wv (xs 0)).toNat (wv (xs 1)).toNat (wv (xs 2)).toNat) = s

def ParsePost (w : World) (xs : Nat → ByteArray) (s : ByteArray) (e : Ending) (w' : World) : Prop :=
  ((P3 xs s → e = .returned (.tuple #[.agg #[.int .i64 (wv (xs 0)), .int .i64 (wv (xs 1)), .int .i64 (wv (xs 2))], .int .i64 0])) ∧ (¬ P3 xs s → e = .returned bad3)) ∧ Below w.heap.size w w'

set_option maxHeartbeats 4000000 in
set_option maxRecDepth 100000 in
theorem parse_three (s : ByteArray) (hs : s.size ≤ 100) (xs : Nat → ByteArray) (hx : pieces s = [xs 0, xs 1, xs 2]) (hxs : ∀ j, j < 3 → (xs j).size ≤ 100) (w : World) (hE : Env w) :
    Calls Tryd.prog 27 #[.string s] w (ParsePost w xs s) := by
  have HC := Aside0.mk (fun w h => split_as s hs (n := 3) (cs := #[.string (xs 0), .string (xs 1), .string (xs 2)]) (by rw [hx]; rfl) (by rw [hx]; rfl) w h)
  have HE := Aside0.mk (hE.below (below_two w (.cells zero3 23) (.cells zero3 23)))
  replace hE := Aside0.mk hE
  replace hxs := Aside0.mk hxs
  clear hx hs
  go_enter Tryd.func27, Tryd.ntmps27
  go_wp2_with (go_at_call 41; refine (HC.out _ HE.out).mono ?_; rintro e w1 ⟨rfl, rfl⟩)
  clear HC HE
  have hP : PB w w.heap.size (w.heap.size + 1) (w.heap.size + 1 + 1) xs 0 (((w.alloc (.cells zero3 23)).alloc (.cells zero3 23)).alloc (.cells #[.string (xs 0), .string (xs 1), .string (xs 2)] 9)) := by
    have hB := below_three w (.cells zero3 23) (.cells zero3 23) (.cells #[.string (xs 0), .string (xs 1), .string (xs 2)] 9)
    refine ⟨blk_alloc (blk_alloc (blk_new w _) _) _, ?_, ?_, hB, hB.size, hE.out.below hB⟩
    · have := blk_alloc (blk_new (w.alloc (.cells zero3 23)) (.cells zero3 23)) (.cells #[.string (xs 0), .string (xs 1), .string (xs 2)] 9)
      rw [World.size_alloc] at this
      exact this
    · have := blk_new ((w.alloc (.cells zero3 23)).alloc (.cells zero3 23)) (.cells #[.string (xs 0), .string (xs 1), .string (xs 2)] 9)
      rw [World.size_alloc, World.size_alloc] at this
      exact this
  have n1 : w.heap.size ≠ w.heap.size + 1 := by omega
  have n2 : w.heap.size + 1 + 1 ≠ w.heap.size + 1 := by omega
  have l1 : w.heap.size ≤ w.heap.size + 1 := by omega
  generalize hpb : w.heap.size + 1 + 1 = pb at hP n2 ⊢
  generalize htb : w.heap.size + 1 = tb at hP n1 n2 l1 hpb ⊢
  obtain ⟨rb, hrb⟩ : ∃ q, w.heap.size = q := ⟨_, rfl⟩
  have l0 : w.heap.size ≤ rb := by omega
  rw [hrb] at n1 ⊢
  replace hP : PB w rb tb pb xs 0 _ := hrb ▸ hP
  generalize (((w.alloc (.cells zero3 23)).alloc (.cells zero3 23)).alloc (.cells #[.string (xs 0), .string (xs 1), .string (xs 2)] 9)) = W0 at hP ⊢
  replace hP := Aside0.mk hP
  replace hrb := Aside0.mk hrb
  replace htb := Aside0.mk htb
  replace hpb := Aside0.mk hpb
  replace n1 := Aside0.mk n1
  replace n2 := Aside0.mk n2
  replace l0 := Aside0.mk l0
  replace l1 := Aside0.mk l1
  go_loopw [20] (fun i wr => ∃ k : Nat, i = .int .i64 k ∧ k ≤ 3 ∧ (∀ j, j < k → ∃ v, atoiAll (xs j).data.toList = .ok v) ∧ PB w rb tb pb xs k wr) (fun i _ => 3 - (RowKit.intOf i).toNat)
  case atStart => exact ⟨0, rfl, by omega, fun _ h => absurd h (by omega), hP.out⟩
  case round =>
    clear hP
    obtain ⟨k, rfl, hk, hall, hP⟩ := hrel
    replace hall := Aside0.mk hall
    by_cases hlt : k < 3
    · have c0 : wr.cell? ⟨pb, k, none⟩ = some (.string (xs k)) := (blk_cell hP.2.2.1 k).trans (xs_cell xs hlt)
      replace hP := Aside0.mk hP
      by_cases hok : ∃ v, atoiAll (xs k).data.toList = .ok v
      · have HC2 := Aside0.mk (fun w => atoi_ok (xs k) (hxs.out k hlt) (wv (xs k)) (by obtain ⟨v, hv⟩ := hok; rw [wv_ok hv]; exact hv) w)
        replace hok := Aside0.mk hok
        generalize hvk : wv (xs k) = vk at HC2
        replace hvk := Aside0.mk hvk
        generalize hxk : xs k = xk at HC2 c0
        replace hxk := Aside0.mk hxk
        go_wp2_with (go_at_call 42; refine (HC2.out _).mono ?_; rintro e w1 ⟨rfl, hb⟩; have hP1 := hP.out.keep hb; have c1 : w1.cell? ⟨tb, k, none⟩ = some (.int .i64 0) := (blk_cell hP1.2.1 k).trans (tcs_cell xs hlt); have z1 := blk_frozen hP1.2.1 k; replace hP1 := Aside0.mk hP1; clear hb)
        go_roundw
        case rel =>
          refine ⟨k + 1, by go_num, by omega, ?_, ?_⟩
          · intro j hj
            by_cases e : j = k
            · subst e; rw [hxk.out]; exact hxk.out ▸ hok.out
            · exact hall.out j (by omega)
          · rw [← hvk.out]; exact hP1.out.next hE.out hlt l1.out n1.out n2.out
        case measure => simp [RowKit.intOf]; omega
      · have HC2 := Aside0.mk (fun w h => atoi_bad (xs k) (hxs.out k hlt) (fun v hv => hok ⟨v, hv⟩) w h)
        replace hok := Aside0.mk hok
        generalize hxk : xs k = xk at HC2 c0
        replace hxk := Aside0.mk hxk
        unfold AtoiBad at HC2
        go_wp2_with (go_at_call 42; refine (HC2.out _ hP.out.2.2.2.2.2).mono ?_; rintro e w1 ⟨m, N, rfl, hb⟩; have hP1 := hP.out.keep hb; have y0 : w1.cell? ⟨rb, 0, none⟩ = some (.int .i64 0) := (blk_cell hP1.1 0).trans rfl; have y1 : w1.cell? ⟨rb, 1, none⟩ = some (.int .i64 0) := (blk_cell hP1.1 1).trans rfl; have y2 : w1.cell? ⟨rb, 2, none⟩ = some (.int .i64 0) := (blk_cell hP1.1 2).trans rfl; have z0 := blk_frozen hP1.1 0; have z1 := blk_frozen hP1.1 1; have z2 := blk_frozen hP1.1 2; replace hP1 := Aside0.mk hP1; clear hb)
        have hput := blk_put (cs' := zero3) (blk_put (cs' := zero3) (blk_put (cs' := zero3) hP1.out.1 0 (.int .i64 0) rfl) 1 (.int .i64 0) rfl) 2 (.int .i64 0) rfl
        have r0 := (blk_cell hput 0).trans (show _ = some (Value.int .i64 0) from rfl)
        have r1 := (blk_cell hput 1).trans (show _ = some (Value.int .i64 0) from rfl)
        have r2 := (blk_cell hput 2).trans (show _ = some (Value.int .i64 0) from rfl)
        refine bodyPost_ret (v := bad3) (by simp [results, Tryd.results27, go_sem, r0, r1, r2]) rfl ⟨⟨fun h => absurd (h.1 k hlt) hok.out, fun _ => rfl⟩, ?_⟩
        exact ((hP1.out.2.2.2.1.setCell (p := ⟨rb, 0, none⟩) l0.out _).setCell (p := ⟨rb, 1, none⟩) l0.out _).setCell (p := ⟨rb, 2, none⟩) l0.out _
    · obtain rfl : k = 3 := by omega
      have q0 : wr.cell? ⟨tb, 0, none⟩ = some (.int .i64 (wv (xs 0))) := (blk_cell hP.2.1 0).trans rfl
      have q1 : wr.cell? ⟨tb, 1, none⟩ = some (.int .i64 (wv (xs 1))) := (blk_cell hP.2.1 1).trans rfl
      have q2 : wr.cell? ⟨tb, 2, none⟩ = some (.int .i64 (wv (xs 2))) := (blk_cell hP.2.1 2).trans rfl
      have hPP : P3 xs s ↔ (rightR 1 (wv (xs 0)) (wv (xs 1)) (wv (xs 2)) = true ∧ str (text3 (wv (xs 0)).toNat (wv (xs 1)).toNat (wv (xs 2)).toNat) = s) := ⟨fun h => h.2, fun h => ⟨hall.out, h⟩⟩
      have hpb3 : ∀ w1, Below wr.heap.size wr w1 → w1.heap[rb]? = some (.cells zero3 23 (0, 0)) := fun w1 hb => (hP.keep hb).1
      have hpt3 : ∀ w1, Below wr.heap.size wr w1 → w1.heap[tb]? = some (.cells (tcs xs 3) 23 (0, 0)) := fun w1 hb => (hP.keep hb).2.1
      have hpB : ∀ w1, Below wr.heap.size wr w1 → Below w.heap.size w w1 := fun w1 hb => (hP.keep hb).2.2.2.1
      replace hpb3 := Aside0.mk hpb3
      replace hpt3 := Aside0.mk hpt3
      replace hpB := Aside0.mk hpB
      replace hP := Aside0.mk hP
      have hres : ∀ (v : Value), (rightR 1 (wv (xs 0)) (wv (xs 1)) (wv (xs 2)) = true → str (text3 (wv (xs 0)).toNat (wv (xs 1)).toNat (wv (xs 2)).toNat) = s → v = .tuple #[.agg #[.int .i64 (wv (xs 0)), .int .i64 (wv (xs 1)), .int .i64 (wv (xs 2))], .int .i64 0]) → (¬ (rightR 1 (wv (xs 0)) (wv (xs 1)) (wv (xs 2)) = true ∧ str (text3 (wv (xs 0)).toNat (wv (xs 1)).toNat (wv (xs 2)).toNat) = s) → v = bad3) → ∀ w1, Below w.heap.size w w1 → ParsePost w xs s (.returned v) w1 := fun v h1 h2 w1 hb => ⟨⟨fun h => by rw [h1 (hPP.1 h).1 (hPP.1 h).2], fun h => by rw [h2 (fun h' => h (hPP.2 h'))]⟩, hb⟩
      generalize wv (xs 0) = a at q0 hres ⊢
      generalize wv (xs 1) = b at q1 hres ⊢
      generalize wv (xs 2) = c at q2 hres ⊢
      replace hres := Aside0.mk hres
      clear hPP hlt hk hall
      cases hR : rightR 1 a b c with
      | false =>
        have HT := Aside0.mk (fun w => text_no a b c hR w)
        replace hR := Aside0.mk hR
        go_wp2_with (go_at_call 23; refine (HT.out _).mono ?_; rintro e w1 ⟨rfl, hb⟩; have hk3 := hpb3.out _ hb; have y0 : w1.cell? ⟨rb, 0, none⟩ = some (.int .i64 0) := (blk_cell hk3 0).trans rfl; have y1 : w1.cell? ⟨rb, 1, none⟩ = some (.int .i64 0) := (blk_cell hk3 1).trans rfl; have y2 : w1.cell? ⟨rb, 2, none⟩ = some (.int .i64 0) := (blk_cell hk3 2).trans rfl; have z0 := blk_frozen hk3 0; have z1 := blk_frozen hk3 1; have z2 := blk_frozen hk3 2; have hB3 := hpB.out _ hb; replace hB3 := Aside0.mk hB3; replace hk3 := Aside0.mk hk3; clear hb)
        have hput := blk_put (cs' := #[Value.int .i64 0, Value.int .i64 0, Value.int .i64 0]) (blk_put (cs' := #[Value.int .i64 0, Value.int .i64 0, .int .i64 0]) (blk_put (cs' := #[Value.int .i64 0, .int .i64 0, .int .i64 0]) hk3.out 0 (Value.int .i64 0) rfl) 1 (Value.int .i64 0) rfl) 2 (Value.int .i64 0) rfl
        have r0 := (blk_cell hput 0).trans (show _ = some (Value.int .i64 0) from rfl)
        have r1 := (blk_cell hput 1).trans (show _ = some (Value.int .i64 0) from rfl)
        have r2 := (blk_cell hput 2).trans (show _ = some (Value.int .i64 0) from rfl)
        refine bodyPost_ret (v := bad3) (by simp [results, Tryd.results27, go_sem, r0, r1, r2]) rfl (hres.out _ (fun h => by rw [hR.out] at h; cases h) (fun _ => rfl) _ (((hB3.out.setCell (p := ⟨rb, 0, none⟩) l0.out _).setCell (p := ⟨rb, 1, none⟩) l0.out _).setCell (p := ⟨rb, 2, none⟩) l0.out _))
      | true =>
        have HT := Aside0.mk (fun w h => text_ok a b c hR w h)
        have hEr := Aside0.mk hP.out.2.2.2.2.2
        replace hR := Aside0.mk hR
        generalize str (text3 a.toNat b.toNat c.toNat) = S at HT hres
        have qs : ∀ w1, Below wr.heap.size wr w1 → w1.cell? ⟨tb, 0, none⟩ = some (.int .i64 a) ∧ w1.cell? ⟨tb, 1, none⟩ = some (.int .i64 b) ∧ w1.cell? ⟨tb, 2, none⟩ = some (.int .i64 c) := fun w1 hb =>
          ⟨(hb.cell (World.block_lt_of_cell? _ _ q0)).trans q0, (hb.cell (World.block_lt_of_cell? _ _ q1)).trans q1, (hb.cell (World.block_lt_of_cell? _ _ q2)).trans q2⟩
        replace qs := Aside0.mk qs
        by_cases hS : S = s
        · subst hS
          go_wp2_with (go_at_call 23; refine (HT.out _ hEr.out).mono ?_; rintro e w1 ⟨rfl, hb⟩; have hk3 := hpb3.out _ hb; have y0 : w1.cell? ⟨rb, 0, none⟩ = some (.int .i64 0) := (blk_cell hk3 0).trans rfl; have y1 : w1.cell? ⟨rb, 1, none⟩ = some (.int .i64 0) := (blk_cell hk3 1).trans rfl; have y2 : w1.cell? ⟨rb, 2, none⟩ = some (.int .i64 0) := (blk_cell hk3 2).trans rfl; have z0 := blk_frozen hk3 0; have z1 := blk_frozen hk3 1; have z2 := blk_frozen hk3 2; have hB3 := hpB.out _ hb; replace hB3 := Aside0.mk hB3; replace hk3 := Aside0.mk hk3; obtain ⟨p0, p1, p2⟩ := qs.out _ hb; clear hb)
          have hput := blk_put (cs' := #[Value.int .i64 a, Value.int .i64 b, Value.int .i64 c]) (blk_put (cs' := #[Value.int .i64 a, Value.int .i64 b, .int .i64 0]) (blk_put (cs' := #[Value.int .i64 a, .int .i64 0, .int .i64 0]) hk3.out 0 (Value.int .i64 a) rfl) 1 (Value.int .i64 b) rfl) 2 (Value.int .i64 c) rfl
          have r0 := (blk_cell hput 0).trans (show _ = some (Value.int .i64 a) from rfl)
          have r1 := (blk_cell hput 1).trans (show _ = some (Value.int .i64 b) from rfl)
          have r2 := (blk_cell hput 2).trans (show _ = some (Value.int .i64 c) from rfl)
          refine bodyPost_ret (v := .tuple #[.agg #[.int .i64 a, .int .i64 b, .int .i64 c], .int .i64 0]) (by simp [results, Tryd.results27, go_sem, r0, r1, r2]) rfl (hres.out _ (fun _ _ => rfl) (fun h => absurd ⟨hR.out, by trivial⟩ h) _ (((hB3.out.setCell (p := ⟨rb, 0, none⟩) l0.out _).setCell (p := ⟨rb, 1, none⟩) l0.out _).setCell (p := ⟨rb, 2, none⟩) l0.out _))
        · have hsb : (S.toList == s.toList) = false := beq_eq_false_iff_ne.2 (fun h => hS (toList_inj h))
          replace hS := Aside0.mk hS
          go_wp2_with (go_at_call 23; refine (HT.out _ hEr.out).mono ?_; rintro e w1 ⟨rfl, hb⟩; have hk3 := hpb3.out _ hb; have y0 : w1.cell? ⟨rb, 0, none⟩ = some (.int .i64 0) := (blk_cell hk3 0).trans rfl; have y1 : w1.cell? ⟨rb, 1, none⟩ = some (.int .i64 0) := (blk_cell hk3 1).trans rfl; have y2 : w1.cell? ⟨rb, 2, none⟩ = some (.int .i64 0) := (blk_cell hk3 2).trans rfl; have z0 := blk_frozen hk3 0; have z1 := blk_frozen hk3 1; have z2 := blk_frozen hk3 2; have hB3 := hpB.out _ hb; replace hB3 := Aside0.mk hB3; replace hk3 := Aside0.mk hk3; clear hb)
          have hput := blk_put (cs' := #[Value.int .i64 0, Value.int .i64 0, Value.int .i64 0]) (blk_put (cs' := #[Value.int .i64 0, Value.int .i64 0, .int .i64 0]) (blk_put (cs' := #[Value.int .i64 0, .int .i64 0, .int .i64 0]) hk3.out 0 (Value.int .i64 0) rfl) 1 (Value.int .i64 0) rfl) 2 (Value.int .i64 0) rfl
          have r0 := (blk_cell hput 0).trans (show _ = some (Value.int .i64 0) from rfl)
          have r1 := (blk_cell hput 1).trans (show _ = some (Value.int .i64 0) from rfl)
          have r2 := (blk_cell hput 2).trans (show _ = some (Value.int .i64 0) from rfl)
          refine bodyPost_ret (v := bad3) (by simp [results, Tryd.results27, go_sem, r0, r1, r2]) rfl (hres.out _ (fun _ h => absurd h hS.out) (fun _ => rfl) _ (((hB3.out.setCell (p := ⟨rb, 0, none⟩) l0.out _).setCell (p := ⟨rb, 1, none⟩) l0.out _).setCell (p := ⟨rb, 2, none⟩) l0.out _))
end Go.Proofs.YtfgnpplnjgjjkaaDoor.T
