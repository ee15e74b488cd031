/- The document's decoding of layer 24, walked. -/
import Derived.Test.YtnncomhgclffaaaEWalks
namespace Go.Proofs.Ytnncomhgclffaaa.EV
open Go.RowKit Go.Proofs.YtnncomhgclffaaaW.PrintWords Go.Proofs.YtnncomhgclffaaaL Go.Proofs.YtnncomhgclffaaaL.Ev

/-! ### the document's -/

/-- The bytes of a string. -/
def sb (s : ByteArray) : List Int := s.data.toList.map (fun b => (b.toNat : Int))
theorem sb_length (s : ByteArray) : (sb s).length = s.size := by simp [sb]
theorem sb_bytes (s : ByteArray) : Bytes (sb s) := by
  intro x hx
  obtain ⟨b, _, rfl⟩ := List.mem_map.1 hx
  have := b.toNat_lt
  omega
def atR (s : ByteArray) (i : Nat) : Int := ((sb s)[i]?).getD 0

set_option maxRecDepth 100000 in
theorem at_walk (w : World) (s : ByteArray) (_ : s.size ≤ 1000000) (i : Int) (h0 : 0 ≤ i) (hi : i ≤ 2000000) : Calls Try.prog 92 #[.string s, .int .i64 i] w fun e w' => e = .returned (.int .i64 (atR s i.toNat)) ∧ w = w' := by
  obtain ⟨i, rfl⟩ := Int.eq_ofNat_of_zero_le h0
  rw [Int.toNat_natCast]
  by_cases h : i < s.size
  · have e : atR s i = (s[i].toNat : Int) := by
      unfold atR sb
      rw [List.getElem?_map, List.getElem?_eq_getElem (by simpa using h)]
      rfl
    rw [e]
    have hb := s[i].toNat_lt
    have e2 : wrap64 (s[i].toNat : Int) = (s[i].toNat : Int) := IntWalk.wrap64_in _ ⟨by omega, by omega⟩
    replace e2 := Aside0.mk e2
    clear e
    go_enter Try.func92, Try.ntmps92
    go_wp2_with fail
    go_ret
    exact ⟨rfl, rfl⟩
  · have e : atR s i = 0 := by
      unfold atR
      rw [List.getElem?_eq_none (by rw [sb_length]; omega)]
      rfl
    rw [e]
    clear e
    go_enter Try.func92, Try.ntmps92
    go_wp2_with fail
    go_ret
    exact ⟨rfl, rfl⟩

theorem atR_wrap (s : ByteArray) (k : Nat) : wrap64 (atR s k + 1) = atR s k + 1 := by
  have h : 0 ≤ atR s k ∧ atR s k < 256 := by
    unfold atR
    cases e : (sb s)[k]? with
    | none => simp
    | some x => exact sb_bytes s x (List.mem_of_getElem? e)
  exact IntWalk.wrap64_in _ ⟨by omega, by omega⟩

/-- What the loop of the document's Decode keeps. -/
def RefInv (w : World) (s : ByteArray) (i : Nat) (out : Value) (wr : World) : Prop :=
  ∃ outs, wr.ownsRow w.heap.size 64 5 out outs.length (outs.flatMap evCells) ∧ dec (sb s) = outs ++ dec ((sb s).drop i) ∧ Below w.heap.size w wr ∧ outs.length ≤ i ∧ i ≤ s.size + 3

theorem drop_at {s : ByteArray} {k : Nat} (h : k < s.size) : (sb s).drop k = (s[k].toNat : Int) :: (sb s).drop (k + 1) := by
  rw [List.drop_eq_getElem_cons (by rw [sb_length]; exact h)]
  congr 1
  simp [sb]; rfl
theorem hd_drop (s : ByteArray) (k : Nat) : hd ((sb s).drop k) = atR s k := by
  unfold hd atR
  rw [List.headD_eq_head?_getD, List.head?_drop]
theorem tail_drop (l : List Int) (k : Nat) : (l.drop k).tail = l.drop (k + 1) := by simp

theorem RefInv.step {w W : World} {s : ByteArray} {k k' : Nat} {x : Int} {outs : List Ev} {ev : Ev} {v : Value} (hk : k < s.size) (hx : (s[k].toNat : Int) = x) (hev : ev = evOf x ((sb s).drop (k + 1))) (heat : (sb s).drop k' = eat x ((sb s).drop (k + 1)))
    (hown : W.ownsRow w.heap.size 64 5 v (outs.length + 1) (outs.flatMap evCells ++ evCells ev)) (hdec : dec (sb s) = outs ++ dec ((sb s).drop k)) (hbel : Below w.heap.size w W) (hl : outs.length ≤ k) (hk1 : k < k') (hk2 : k' ≤ s.size + 3) : RefInv w s k' v W := by
  subst hev
  refine ⟨outs ++ [evOf x ((sb s).drop (k + 1))], by simpa using hown, ?_, hbel, by simp; omega, hk2⟩
  rw [hdec, drop_at hk, hx, dec, heat]; simp

theorem Try.info64 : (Try.prog.info? 64).map (fun i => (i.zero, i.size, i.bytes)) = some (some (.agg #[.int .i64 0, .int .i64 0, .int .i64 0, .int .i64 0, .int .i64 0]), 5, 40) := by kernel_rfl

set_option maxHeartbeats 4000000 in
set_option maxRecDepth 100000 in
theorem refDecode_walk (w : World) (s : ByteArray) (hs : s.size ≤ 100000) : Calls Try.prog 39 #[.string s] w fun e w' => ∃ v, e = .returned v ∧ w'.ownsRow w.heap.size 64 5 v (dec (sb s)).length ((dec (sb s)).flatMap evCells) ∧ Below w.heap.size w w' := by
  go_enter Try.func39, Try.ntmps39
  go_wp2_with fail
  go_loopw [3, 4] (fun out i wr => ∃ k : Nat, i = .int .i64 k ∧ RefInv w s k out wr) (fun _ i _ => s.size - (intOf i).toNat)
  case atStart => exact ⟨0, rfl, [], World.ownsRow_nil _ _ _ _, by simp, Below.refl _ _, by simp, by omega⟩
  case round =>
    obtain ⟨k, rfl, outs, hown, hdec, hbel, hok, hks⟩ := hrel
    have hs2 := hbel.size
    replace hdec := Aside0.mk hdec
    replace hown := Aside0.mk hown
    replace hbel := Aside0.mk hbel
    obtain ⟨ao, capo, rfl⟩ := owns_form hown.out
    obtain ⟨i0, hi, hz0, hz1, hz2⟩ := info_parts Try.info64
    replace hi := Aside0.mk hi
    replace hz0 := Aside0.mk hz0
    replace hz1 := Aside0.mk hz1
    replace hz2 := Aside0.mk hz2
    by_cases hlt : k < s.size
    · go_wp2_with fail
      go_region
      obtain ⟨x, hx⟩ : ∃ x : Int, (s[k].toNat : Int) = x := ⟨_, rfl⟩
      have hxb : 0 ≤ x ∧ x < 256 := by have := s[k].toNat_lt; omega
      have e8 : (wrap64 x).tmod 8 = x % 8 := by rw [IntWalk.wrap64_in _ ⟨by omega, by omega⟩, Int.tmod_eq_emod_of_nonneg hxb.1]
      have e9 : wrap64 ((wrap64 x).tdiv 8) = x / 8 := by
        rw [IntWalk.wrap64_in x ⟨by omega, by omega⟩, Int.tdiv_eq_ediv_of_nonneg hxb.1, IntWalk.wrap64_in _ ⟨by omega, by omega⟩]
      rw [hx, e9, e8]
      clear e8 e9
      obtain ⟨q, hq⟩ : ∃ q, x % 8 = q := ⟨_, rfl⟩
      obtain ⟨d, hd9⟩ : ∃ d, x / 8 = d := ⟨_, rfl⟩
      rw [hq, hd9]
      have hq2 : 0 ≤ q ∧ q < 8 := by omega
      have hownd := Aside0.mk (show wr.drew.ownsRow w.heap.size 64 5 _ _ _ from hown.out)
      have hst0 := Aside0.mk (show Below w.heap.size w wr.drew from hbel.out.drew)
      have hs3 : w.heap.size ≤ wr.drew.heap.size := hs2
      replace hx := Aside0.mk hx
      replace hq := Aside0.mk hq
      replace hd9 := Aside0.mk hd9
      generalize wr.drew = w2 at hownd hst0 hs3 ⊢
      clear hown hbel hs2
      by_cases c1 : q < 3
      · go_wp2_with (first | (go_at_call 92; refine (at_walk _ s (by omega) _ (by omega) (by omega)).mono ?_; rintro e w9 ⟨rfl, rfl⟩) | (at_builtin; refine wpList_append_own _ rfl _ _ 57 rfl w.heap.size 64 i0 (.agg #[.int .i64 0, .int .i64 0, .int .i64 0, .int .i64 0, .int .i64 0]) 5 40 Try.underlying57 hi.out hz0.out hz1.out hz2.out rfl (by decide) _ _ _ rfl (hownd.out.alloc _) ⟨w2.heap.size, 0, none⟩ 1 1 (evCells (1, (wrap64 (atR s (k + 1) + 1), wrap64 (atR s (k + 2) + 1), wrap64 (atR s (k + 3) + 1)), 0)) rfl rfl (cells_new _ _ _ (by simp)) (by simp [evCells, Value.oneCell']) (by unfold maxLen; omega) (by omega) (by simp; omega) ?_; intro v3 w3 hown3 hgr3 _; replace hown3 := Aside0.mk hown3; replace hgr3 := Aside0.mk hgr3))
        have hst := (hst0.out.alloc hs3 (.cells (evCells (1, (wrap64 (atR s (k + 1) + 1), wrap64 (atR s (k + 2) + 1), wrap64 (atR s (k + 3) + 1)), 0)).toArray 64)).grown hgr3.out (by rw [World.size_alloc]; omega) (fun q e => own_base hownd.out q e)
        go_roundw
        case rel => exact ⟨k + 4, by go_num, RefInv.step hlt hx.out (by unfold evOf; rw [hq.out, if_pos c1, tail_drop, tail_drop, hd_drop, hd_drop, hd_drop, atR_wrap, atR_wrap, atR_wrap]) (by unfold eat; rw [hq.out, if_pos c1, tail_drop, tail_drop, tail_drop]) hown3.out hdec.out hst hok (by omega) (by omega)⟩
        case measure => simp [intOf]; omega
      · by_cases c2 : q = 3
        · subst c2
          go_wp2_with (first | (go_at_call 92; refine (at_walk _ s (by omega) _ (by omega) (by omega)).mono ?_; rintro e w9 ⟨rfl, rfl⟩) | (at_builtin; refine wpList_append_own _ rfl _ _ 57 rfl w.heap.size 64 i0 (.agg #[.int .i64 0, .int .i64 0, .int .i64 0, .int .i64 0, .int .i64 0]) 5 40 Try.underlying57 hi.out hz0.out hz1.out hz2.out rfl (by decide) _ _ _ rfl (hownd.out.alloc _) ⟨w2.heap.size, 0, none⟩ 1 1 (evCells (2, (0, 0, 0), atR s (k + 1))) rfl rfl (cells_new _ _ _ (by simp)) (by simp [evCells, Value.oneCell']) (by unfold maxLen; omega) (by omega) (by simp; omega) ?_; intro v3 w3 hown3 hgr3 _; replace hown3 := Aside0.mk hown3; replace hgr3 := Aside0.mk hgr3))
          have hst := (hst0.out.alloc hs3 (.cells (evCells (2, (0, 0, 0), atR s (k + 1))).toArray 64)).grown hgr3.out (by rw [World.size_alloc]; omega) (fun q e => own_base hownd.out q e)
          go_roundw
          case rel => exact ⟨k + 2, by go_num, RefInv.step hlt hx.out (by unfold evOf; rw [hq.out, if_neg (by omega), if_pos rfl, hd_drop]) (by unfold eat; rw [hq.out, if_neg (by omega), if_pos rfl, tail_drop]) hown3.out hdec.out hst hok (by omega) (by omega)⟩
          case measure => simp [intOf]; omega
        · have c2b : (q == 3) = false := beq_eq_false_iff_ne.2 c2
          by_cases c3 : q < 6
          · go_wp2_with ((at_builtin; refine wpList_append_own _ rfl _ _ 57 rfl w.heap.size 64 i0 (.agg #[.int .i64 0, .int .i64 0, .int .i64 0, .int .i64 0, .int .i64 0]) 5 40 Try.underlying57 hi.out hz0.out hz1.out hz2.out rfl (by decide) _ _ _ rfl (hownd.out.alloc _) ⟨w2.heap.size, 0, none⟩ 1 1 (evCells (3, (0, 0, 0), d)) rfl rfl (cells_new _ _ _ (by simp)) (by simp [evCells, Value.oneCell']) (by unfold maxLen; omega) (by omega) (by simp; omega) ?_; intro v3 w3 hown3 hgr3 _; replace hown3 := Aside0.mk hown3; replace hgr3 := Aside0.mk hgr3))
            have hst := (hst0.out.alloc hs3 (.cells (evCells (3, (0, 0, 0), d)).toArray 64)).grown hgr3.out (by rw [World.size_alloc]; omega) (fun q e => own_base hownd.out q e)
            go_roundw
            case rel => exact ⟨k + 1, by go_num, RefInv.step hlt hx.out (by unfold evOf; rw [hq.out, hd9.out, if_neg c1, if_neg c2, if_pos c3]) (by unfold eat; rw [hq.out, if_neg c1, if_neg c2]) hown3.out hdec.out hst hok (by omega) (by omega)⟩
            case measure => simp [intOf]; omega
          · by_cases c4 : q = 6
            · subst c4
              go_wp2_with ((at_builtin; refine wpList_append_own _ rfl _ _ 57 rfl w.heap.size 64 i0 (.agg #[.int .i64 0, .int .i64 0, .int .i64 0, .int .i64 0, .int .i64 0]) 5 40 Try.underlying57 hi.out hz0.out hz1.out hz2.out rfl (by decide) _ _ _ rfl (hownd.out.alloc _) ⟨w2.heap.size, 0, none⟩ 1 1 (evCells (4, (0, 0, 0), d)) rfl rfl (cells_new _ _ _ (by simp)) (by simp [evCells, Value.oneCell']) (by unfold maxLen; omega) (by omega) (by simp; omega) ?_; intro v3 w3 hown3 hgr3 _; replace hown3 := Aside0.mk hown3; replace hgr3 := Aside0.mk hgr3))
              have hst := (hst0.out.alloc hs3 (.cells (evCells (4, (0, 0, 0), d)).toArray 64)).grown hgr3.out (by rw [World.size_alloc]; omega) (fun q e => own_base hownd.out q e)
              go_roundw
              case rel => exact ⟨k + 1, by go_num, RefInv.step hlt hx.out (by unfold evOf; rw [hq.out, hd9.out, if_neg (by omega), if_neg (by omega), if_neg (by omega), if_pos rfl]) (by unfold eat; rw [hq.out, if_neg (by omega), if_neg (by omega)]) hown3.out hdec.out hst hok (by omega) (by omega)⟩
              case measure => simp [intOf]; omega
            · have c4b : (q == 6) = false := beq_eq_false_iff_ne.2 c4
              go_wp2_with ((at_builtin; refine wpList_append_own _ rfl _ _ 57 rfl w.heap.size 64 i0 (.agg #[.int .i64 0, .int .i64 0, .int .i64 0, .int .i64 0, .int .i64 0]) 5 40 Try.underlying57 hi.out hz0.out hz1.out hz2.out rfl (by decide) _ _ _ rfl (hownd.out.alloc _) ⟨w2.heap.size, 0, none⟩ 1 1 (evCells (5, (0, 0, 0), 0)) rfl rfl (cells_new _ _ _ (by simp)) (by simp [evCells, Value.oneCell']) (by unfold maxLen; omega) (by omega) (by simp; omega) ?_; intro v3 w3 hown3 hgr3 _; replace hown3 := Aside0.mk hown3; replace hgr3 := Aside0.mk hgr3))
              have hst := (hst0.out.alloc hs3 (.cells (evCells (5, (0, 0, 0), 0)).toArray 64)).grown hgr3.out (by rw [World.size_alloc]; omega) (fun q e => own_base hownd.out q e)
              go_roundw
              case rel => exact ⟨k + 1, by go_num, RefInv.step hlt hx.out (by unfold evOf; rw [hq.out, if_neg c1, if_neg c2, if_neg c3, if_neg c4]) (by unfold eat; rw [hq.out, if_neg c1, if_neg c2]) hown3.out hdec.out hst hok (by omega) (by omega)⟩
              case measure => simp [intOf]; omega
    · have hdl : dec (sb s) = outs := by rw [hdec.out, List.drop_eq_nil_of_le (by rw [sb_length]; omega), dec, List.append_nil]
      replace hdl := Aside0.mk hdl
      go_wp2_with fail
      go_ret
      exact ⟨_, rfl, by rw [hdl.out]; exact hown.out, hbel.out⟩
end Go.Proofs.Ytnncomhgclffaaa.EV
