/- The document's answer for the blocks (retiaryref17): what its functions tell. -/
import Derived.Test.YtnncomhgclffaaaBSums
import Derived.Test.YtnncomhgclffaaaBPlain
namespace Go.Proofs.Ytnncomhgclffaaa.BI
open Go.RowKit Go.Shelf Go.Proofs.YtnncomhgclffaaaW.PrintWords Go.Proofs.YtnncomhgclffaaaL Go.Proofs.Ytnncomhgclffaaa.LL Go.Proofs.Ytnncomhgclffaaa.LS

/-- Texts in a row. -/
def RowS (W : World) (A : Option Addr) (ks : List ByteArray) : Prop := ∀ j (hj : j < ks.length), ∃ g, A = some ⟨g, 0, none⟩ ∧ g < W.heap.size ∧ W.cell? ⟨g, j, none⟩ = some (.string ks[j])
/-- Pairs in a row. -/
def RowP (W : World) (B : Option Addr) (Q : List (ByteArray × Int)) : Prop := ∀ j (hj : j < Q.length), ∃ g, B = some ⟨g, 0, none⟩ ∧ g < W.heap.size ∧ W.cell? ⟨g, j * 2, none⟩ = some (.string Q[j].1) ∧ W.cell? ⟨g, j * 2 + 1, none⟩ = some (.int .i64 Q[j].2)
theorem RowS.below {w W : World} {A : Option Addr} {ks : List ByteArray} (h : RowS w A ks) (hb : Below w.heap.size w W) : RowS W A ks := fun j hj => by
  obtain ⟨g, e, hl, hc⟩ := h j hj
  exact ⟨g, e, Nat.lt_of_lt_of_le hl hb.size, (hb.cell (p := ⟨g, j, none⟩) hl).trans hc⟩
theorem RowP.below {w W : World} {B : Option Addr} {Q : List (ByteArray × Int)} (h : RowP w B Q) (hb : Below w.heap.size w W) : RowP W B Q := fun j hj => by
  obtain ⟨g, e, hl, hc, hd⟩ := h j hj
  exact ⟨g, e, Nat.lt_of_lt_of_le hl hb.size, (hb.cell (p := ⟨g, j * 2, none⟩) hl).trans hc, (hb.cell (p := ⟨g, j * 2 + 1, none⟩) hl).trans hd⟩

theorem str_eq (a b : ByteArray) : (a.toList == b.toList) = decide (a = b) := by
  rw [Bool.eq_iff_iff, beq_iff_eq, decide_eq_true_iff, ByteArray.toList_eq, ByteArray.toList_eq]
  constructor
  · intro h
    cases a; cases b
    congr 1
    exact Array.toList_inj.1 h
  · rintro rfl; rfl

/-- The document's blocks: a row of owners, a row of pairs. -/
def XIs (W : World) (xb : Nat) (A B : Option Addr) (c d : Nat) (ks : List ByteArray) (Q : List (ByteArray × Int)) : Prop :=
  W.heap[xb]? = some (.cells #[.slice A ks.length c, .slice B Q.length d] 116 (0, 0)) ∧ RowS W A ks ∧ RowP W B Q
theorem XIs.below {w W : World} {xb : Nat} {A B : Option Addr} {c d : Nat} {ks : List ByteArray} {Q : List (ByteArray × Int)} (h : XIs w xb A B c d ks Q) (hb : Below w.heap.size w W) : XIs W xb A B c d ks Q :=
  ⟨(hb.block xb (blk_lt h.1)).trans h.1, h.2.1.below hb, h.2.2.below hb⟩

section
variable {w W : World} {xb : Nat} {A B : Option Addr} {c d : Nat} {ks : List ByteArray} {Q : List (ByteArray × Int)}

set_option maxRecDepth 100000 in
theorem ris_walk (h : XIs w xb A B c d ks Q) (k : ByteArray) (hn : ks.length < 100000) :
    Calls Try.prog 71 #[.pointer (some ⟨xb, 0, none⟩), .string k] w fun e w' => e = .returned (.bool (decide (k ∈ ks))) ∧ w = w' := by
  have c0 : w.cell? ⟨xb, 0, none⟩ = some (.slice A ks.length c) := (blk_cell h.1 0).trans rfl
  have hr := Aside0.mk h.2.1
  clear h
  go_enter Try.func71, Try.ntmps71
  go_wp2_with fail
  go_loopw [12] (fun i wr => ∃ j : Nat, i = .int .i64 j ∧ j ≤ ks.length ∧ k ∉ ks.take j ∧ w = wr) (fun i _ => ks.length - (intOf i).toNat)
  case atStart => exact ⟨0, rfl, Nat.zero_le _, by simp, rfl⟩
  case round =>
    obtain ⟨j, rfl, hj, hno, rfl⟩ := hrel
    by_cases hjl : j < ks.length
    · obtain ⟨g, rfl, hgl, hcell⟩ := hr.out j hjl
      have htake : ks.take (j + 1) = ks.take j ++ [ks[j]] := List.take_succ_eq_append_getElem hjl
      by_cases e : ks[j] = k
      · have hb : (ks[j].toList == k.toList) = true := by rw [str_eq]; exact decide_eq_true e
        have hin : k ∈ ks := by rw [← e]; exact List.getElem_mem hjl
        replace hin := Aside0.mk hin
        clear hno e
        go_wp2
        go_ret
        exact ⟨congrArg (fun b => Ending.returned (.bool b)) (decide_eq_true hin.out).symm, rfl⟩
      · have hb : (ks[j].toList == k.toList) = false := by rw [str_eq]; exact decide_eq_false e
        have hno2 : k ∉ ks.take (j + 1) := by
          rw [htake]
          intro h
          rcases List.mem_append.1 h with q | q
          · exact hno q
          · exact e (List.mem_singleton.1 q).symm
        replace hno2 := Aside0.mk hno2
        clear hno e htake
        go_wp2
        go_roundw
        case rel => exact ⟨j + 1, by go_num, by omega, hno2.out, trivial⟩
        case measure => simp [intOf]; omega
    · obtain rfl : j = ks.length := by omega
      rw [List.take_length] at hno
      replace hno := Aside0.mk hno
      go_wp2
      go_ret
      exact ⟨congrArg (fun b => Ending.returned (.bool b)) (decide_eq_false hno.out).symm, rfl⟩

set_option maxRecDepth 100000 in
theorem rhas_walk (h : XIs w xb A B c d ks Q) (k : ByteArray) (v : Int) (hn : Q.length < 100000) :
    Calls Try.prog 72 #[.pointer (some ⟨xb, 0, none⟩), .string k, .int .i64 v] w fun e w' => e = .returned (.bool (decide (v ∈ ofP Q k))) ∧ Below w.heap.size w w' := by
  have c1 : w.cell? ⟨xb, 1, none⟩ = some (.slice B Q.length d) := (blk_cell h.1 1).trans rfl
  have hr := Aside0.mk h.2.2
  clear h
  go_enter Try.func72, Try.ntmps72
  go_wp2_with fail
  go_loopw [14] (fun i wr => ∃ j : Nat, i = .int .i64 j ∧ j ≤ Q.length ∧ (k, v) ∉ Q.take j ∧ Below w.heap.size w wr) (fun i _ => Q.length - (intOf i).toNat)
  case atStart => exact ⟨0, rfl, Nat.zero_le _, by simp, Below.refl _ _⟩
  case round =>
    obtain ⟨j, rfl, hj, hno, hB⟩ := hrel
    by_cases hjl : j < Q.length
    · obtain ⟨g, rfl, hgl, hc0, hc1⟩ := hr.out j hjl
      have f0 := (hB.cell (p := ⟨g, j * 2, none⟩) hgl).trans hc0
      have f1 := (hB.cell (p := ⟨g, j * 2 + 1, none⟩) hgl).trans hc1
      have htake : Q.take (j + 1) = Q.take j ++ [Q[j]] := List.take_succ_eq_append_getElem hjl
      have hB2 := Aside0.mk (hB.alloc hB.size (.cells #[.string Q[j].1, .int .i64 Q[j].2] 124))
      clear hB hc0 hc1
      by_cases e : Q[j].1 = k
      · have hb : (Q[j].1.toList == k.toList) = true := by rw [str_eq]; exact decide_eq_true e
        by_cases e2 : Q[j].2 = v
        · have hb2 : (Q[j].2 == v) = true := beq_iff_eq.2 e2
          have hin : (k, v) ∈ Q := by rw [← e, ← e2]; exact List.getElem_mem hjl
          replace hin := Aside0.mk hin
          clear hno e e2 htake
          go_wp2
          go_ret
          exact ⟨congrArg (fun b => Ending.returned (.bool b)) (decide_eq_true (mem_ofP.2 hin.out)).symm, hB2.out⟩
        · have hb2 : (Q[j].2 == v) = false := beq_eq_false_iff_ne.2 e2
          have hno2 : (k, v) ∉ Q.take (j + 1) := by
            rw [htake]
            intro h
            rcases List.mem_append.1 h with q | q
            · exact hno q
            · exact e2 (congrArg Prod.snd (List.mem_singleton.1 q)).symm
          replace hno2 := Aside0.mk hno2
          clear hno e e2 htake
          go_wp2
          go_roundw
          case rel => exact ⟨j + 1, by go_num, by omega, hno2.out, hB2.out⟩
          case measure => simp [intOf]; omega
      · have hb : (Q[j].1.toList == k.toList) = false := by rw [str_eq]; exact decide_eq_false e
        have hno2 : (k, v) ∉ Q.take (j + 1) := by
          rw [htake]
          intro h
          rcases List.mem_append.1 h with q | q
          · exact hno q
          · exact e (congrArg Prod.fst (List.mem_singleton.1 q)).symm
        replace hno2 := Aside0.mk hno2
        clear hno e htake
        go_wp2
        go_roundw
        case rel => exact ⟨j + 1, by go_num, by omega, hno2.out, hB2.out⟩
        case measure => simp [intOf]; omega
    · obtain rfl : j = Q.length := by omega
      rw [List.take_length] at hno
      replace hno := Aside0.mk hno
      replace hB := Aside0.mk hB
      go_wp2
      go_ret
      exact ⟨congrArg (fun b => Ending.returned (.bool b)) (decide_eq_false (fun q => hno.out (mem_ofP.1 q))).symm, hB.out⟩

set_option maxRecDepth 100000 in
theorem rcount_walk (h : XIs w xb A B c d ks Q) (k : ByteArray) (hn : Q.length < 100000) :
    Calls Try.prog 77 #[.pointer (some ⟨xb, 0, none⟩), .string k] w fun e w' => e = .returned (.int .i64 (ofP Q k).length) ∧ Below w.heap.size w w' := by
  have c1 : w.cell? ⟨xb, 1, none⟩ = some (.slice B Q.length d) := (blk_cell h.1 1).trans rfl
  have hr := Aside0.mk h.2.2
  clear h
  go_enter Try.func77, Try.ntmps77
  go_wp2_with fail
  go_loopw [13, 5] (fun i t wr => ∃ j : Nat, i = .int .i64 j ∧ j ≤ Q.length ∧ t = .int .i64 (ofP (Q.take j) k).length ∧ Below w.heap.size w wr) (fun i _ _ => Q.length - (intOf i).toNat)
  case atStart => exact ⟨0, rfl, Nat.zero_le _, rfl, Below.refl _ _⟩
  case round =>
    obtain ⟨j, rfl, hj, rfl, hB⟩ := hrel
    by_cases hjl : j < Q.length
    · obtain ⟨g, rfl, hgl, hc0, hc1⟩ := hr.out j hjl
      have f0 := (hB.cell (p := ⟨g, j * 2, none⟩) hgl).trans hc0
      have f1 := (hB.cell (p := ⟨g, j * 2 + 1, none⟩) hgl).trans hc1
      have htake : Q.take (j + 1) = Q.take j ++ [Q[j]] := List.take_succ_eq_append_getElem hjl
      have hB2 := Aside0.mk (hB.alloc hB.size (.cells #[.string Q[j].1, .int .i64 Q[j].2] 124))
      have hle : (ofP (Q.take j) k).length ≤ j := by
        unfold ofP
        rw [List.length_map]
        exact Nat.le_trans (List.length_filter_le _ _) (by rw [List.length_take]; omega)
      have hap := ofP_append (Q.take j) Q[j].1 k Q[j].2
      rw [show Q.take j ++ [(Q[j].1, Q[j].2)] = Q.take (j + 1) from htake.symm] at hap
      clear hB hc0 hc1 htake
      by_cases e : Q[j].1 = k
      · have hb : (Q[j].1.toList == k.toList) = true := by rw [str_eq]; exact decide_eq_true e
        rw [if_pos e.symm] at hap
        replace hap := Aside0.mk hap
        clear e
        generalize (ofP (Q.take j) k) = L at hap hle ⊢
        go_wp2
        go_roundw
        case rel => exact ⟨j + 1, by go_num, by omega, by rw [hap.out, List.length_append]; rfl, hB2.out⟩
        case measure => simp [intOf]; omega
      · have hb : (Q[j].1.toList == k.toList) = false := by rw [str_eq]; exact decide_eq_false e
        rw [if_neg (fun q => e q.symm)] at hap
        replace hap := Aside0.mk hap
        clear e
        go_wp2
        go_roundw
        case rel => exact ⟨j + 1, by go_num, by omega, by rw [hap.out], hB2.out⟩
        case measure => simp [intOf]; omega
    · obtain rfl : j = Q.length := by omega
      rw [List.take_length]
      replace hB := Aside0.mk hB
      go_wp2
      go_ret
      exact ⟨rfl, hB.out⟩
end
end Go.Proofs.Ytnncomhgclffaaa.BI
