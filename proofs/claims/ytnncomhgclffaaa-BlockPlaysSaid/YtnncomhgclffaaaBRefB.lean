/- The document's By, and the statements' comparison of texts. -/
import Derived.Test.YtnncomhgclffaaaBRef
import Derived.Laws.AppendOwn
import Derived.Maps.AppendAt
namespace Go.Proofs.Ytnncomhgclffaaa.BI
open Go.RowKit Go.Shelf Go.Proofs.YtnncomhgclffaaaW.PrintWords Go.Proofs.YtnncomhgclffaaaL Go.Proofs.Ytnncomhgclffaaa.LL Go.Proofs.Ytnncomhgclffaaa.LS

theorem own_from {w : World} {base k : Nat} {e : TypeId} {size n : Nat} {v : Value} {xs : List Value} (h : w.ownsRow base e size v n xs) (hk : v.ownBlock = some k) : base ≤ k := by
  rcases h.2 with ⟨rfl, _⟩ | ⟨g, cap, cur, rfl, hb, _⟩
  · simp [Value.ownBlock] at hk
  · simp [Value.ownBlock] at hk; omega
/-- Behind an append to a row that the call owns. -/
theorem app_below {w W w1 : World} {e : TypeId} {size n : Nat} {v : Value} {xs : List Value} {o : Obj} (hB : Below w.heap.size w W) (h : W.ownsRow w.heap.size e size v n xs) (hg : (W.alloc o).grownBy w1 v.ownBlock) : Below w.heap.size w w1 :=
  (hB.alloc hB.size o).grown hg (by have := hB.size; simp; omega) (fun _ hk => own_from h hk)

section
variable {w W : World} {xb : Nat} {A B : Option Addr} {c d : Nat} {ks : List ByteArray} {Q : List (ByteArray × Int)}

set_option maxHeartbeats 1000000 in
set_option maxRecDepth 100000 in
theorem rby_walk (h : XIs w xb A B c d ks Q) (v : Int) (hn : ks.length < 100000) (hq : Q.length < 100000) :
    Calls Try.prog 86 #[.pointer (some ⟨xb, 0, none⟩), .int .i64 v] w fun e w' => ∃ r, e = .returned r ∧ w'.ownsRow w.heap.size 9 1 r (ks.filter fun k => decide (v ∈ ofP Q k)).length ((ks.filter fun k => decide (v ∈ ofP Q k)).map Value.string) ∧ Below w.heap.size w w' := by
  obtain ⟨i0, hi, hz0, hz1, hz2⟩ := info_parts info9
  replace hi := Aside0.mk hi
  replace hz0 := Aside0.mk hz0
  replace hz1 := Aside0.mk hz1
  replace hz2 := Aside0.mk hz2
  have c0 : w.cell? ⟨xb, 0, none⟩ = some (.slice A ks.length c) := (blk_cell h.1 0).trans rfl
  have hr := Aside0.mk h.2.1
  replace h := Aside0.mk h
  have hmax : 100000 ≤ maxLen := by decide
  go_enter Try.func86, Try.ntmps86
  go_wp2_with fail
  go_loopw [13, 5] (fun i t wr => ∃ (j : Nat) (L : List ByteArray), i = .int .i64 j ∧ j ≤ ks.length ∧ L = (ks.take j).filter (fun k => decide (v ∈ ofP Q k)) ∧ wr.ownsRow w.heap.size 9 1 t L.length (L.map Value.string) ∧ Below w.heap.size w wr) (fun i _ _ => ks.length - (intOf i).toNat)
  case atStart => exact ⟨0, [], rfl, Nat.zero_le _, rfl, World.ownsRow_nil _ _ _ _, Below.refl _ _⟩
  case round =>
    obtain ⟨j, L, rfl, hj, hL, hown, hB⟩ := hrel
    by_cases hjl : j < ks.length
    · obtain ⟨g, rfl, hgl, hcell⟩ := hr.out j hjl
      have f0 := (hB.cell (p := ⟨g, j, none⟩) hgl).trans hcell
      have hLl : L.length ≤ j := by
        rw [hL]
        exact Nat.le_trans (List.length_filter_le _ _) (by rw [List.length_take]; omega)
      have htake : (ks.take (j + 1)).filter (fun k => decide (v ∈ ofP Q k)) = if v ∈ ofP Q ks[j] then L ++ [ks[j]] else L := by
        rw [List.take_succ_eq_append_getElem hjl, List.filter_append, ← hL]
        by_cases q : v ∈ ofP Q ks[j] <;> simp [q]
      clear hL hcell
      have hH := Aside0.mk (rhas_walk (h.out.below hB) ks[j] v hq)
      obtain ⟨A5, c5, rfl⟩ := owns_form hown
      replace hown := Aside0.mk hown
      replace hB := Aside0.mk hB
      by_cases q : v ∈ ofP Q ks[j]
      · rw [decide_eq_true q] at hH
        rw [if_pos q] at htake
        replace htake := Aside0.mk htake
        clear q
        go_wp2_with (first | (go_at_call 72; refine hH.out.mono ?_; rintro e w2 ⟨rfl, hb2⟩; have hB2 := Aside0.mk (hB.out.trans (hb2.mono hB.out.size)); have hown2 := Aside0.mk (owns_below hown.out hb2); clear hb2) | (at_builtin; refine wpList_append_own _ rfl _ _ 41 rfl w.heap.size 9 i0 (.string ⟨#[]⟩) 1 16 Try.underlying41 hi.out hz0.out hz1.out hz2.out rfl (by decide) _ _ _ rfl (hown2.out.alloc _) ⟨w2.heap.size, 0, none⟩ 1 1 [.string ks[j]] rfl rfl (cell_one_new _ _ _) (by simp [Value.oneCell']) (by omega) (by omega) (by have := hB2.out.size; simp; omega) ?_; intro v3 w3 hown3 hgr3 _; have hB3 := Aside0.mk (app_below hB2.out hown2.out hgr3); replace hown3 := Aside0.mk hown3))
        go_roundw
        case rel => exact ⟨j + 1, L ++ [ks[j]], by go_num, by omega, htake.out.symm, by simpa using hown3.out, hB3.out⟩
        case measure => simp [intOf]; omega
      · rw [decide_eq_false q] at hH
        rw [if_neg q] at htake
        replace htake := Aside0.mk htake
        clear q
        go_wp2_with (go_at_call 72; refine hH.out.mono ?_; rintro e w2 ⟨rfl, hb2⟩; have hB2 := Aside0.mk (hB.out.trans (hb2.mono hB.out.size)); have hown2 := Aside0.mk (owns_below hown.out hb2); clear hb2)
        go_roundw
        case rel => exact ⟨j + 1, L, by go_num, by omega, htake.out.symm, hown2.out, hB2.out⟩
        case measure => simp [intOf]; omega
    · obtain rfl : j = ks.length := by omega
      rw [List.take_length] at hL
      replace hL := Aside0.mk hL
      obtain ⟨A5, c5, rfl⟩ := owns_form hown
      replace hown := Aside0.mk hown
      replace hB := Aside0.mk hB
      go_wp2
      go_ret
      exact ⟨_, rfl, by rw [← hL.out]; exact hown.out, hB.out⟩

set_option maxHeartbeats 1000000 in
set_option maxRecDepth 100000 in
theorem texts_walk {xs : List ByteArray} (ha : RowS w A xs) (hb : RowS w B xs) (hn : xs.length < 100000) :
    Calls Try.prog 84 #[.slice A xs.length c, .slice B xs.length d] w fun e w' => e = .returned (.bool true) ∧ Below w.heap.size w w' := by
  replace ha := Aside0.mk ha
  replace hb := Aside0.mk hb
  go_enter Try.func84, Try.ntmps84
  go_wp2_with fail
  go_loopw [13] (fun i wr => ∃ (j : Nat), i = .int .i64 j ∧ j ≤ xs.length ∧ Below w.heap.size w wr) (fun i _ => xs.length - (intOf i).toNat)
  case atStart => exact ⟨0, rfl, Nat.zero_le _, Below.refl _ _⟩
  case round =>
    obtain ⟨j, rfl, hj, hB⟩ := hrel
    by_cases hjl : j < xs.length
    · obtain ⟨g, rfl, hgl, hc1⟩ := ha.out j hjl
      obtain ⟨g2, rfl, hgl2, hc2⟩ := hb.out j hjl
      have f1 := (hB.cell (p := ⟨g, j, none⟩) hgl).trans hc1
      have f2 := (hB.cell (p := ⟨g2, j, none⟩) hgl2).trans hc2
      clear hc1 hc2
      have hB2 := Aside0.mk hB
      clear hB
      go_upto_region 6 with fail
      go_quiet (fail)
      go_wp2
      go_roundw
      case rel => exact ⟨j + 1, by go_num, by omega, by apply pw_below_drewN; exact hB2.out⟩
      case measure => simp [intOf]; omega
    · obtain rfl : j = xs.length := by omega
      replace hB := Aside0.mk hB
      go_wp2
      go_ret
      exact ⟨rfl, hB.out⟩
end
end Go.Proofs.Ytnncomhgclffaaa.BI
