/- 'Text' of layer 20. -/
import Derived.Test.YtmhpogajklihdaaDoorCEnv
import Derived.Test.YtmhpogajklihdaaDoorCRow
namespace Go.Proofs.YtmhpogajklihdaaDoor.C
open Go.RowKit Go.Shelf Go.Lib

theorem text_bad {m : M} {n : Int} (hr : rightName m.1 = true) (hn : n ∈ m.2) (h : okId n = false) : textM m = (⟨#[]⟩, 13) := by
  unfold textM
  have : m.2.all okId = false := by
    rw [List.all_eq_false]
    exact ⟨n, hn, by rw [h]; decide⟩
  rw [hr, this]
  rfl
theorem text_wrong {m : M} (hr : rightName m.1 = false) : textM m = (⟨#[]⟩, 1) := by
  unfold textM
  rw [hr]
  rfl
theorem tail_app (a : List UInt8) (t : List UInt8) (n : Nat) : str (a ++ t) ++ (⟨#[32]⟩ ++ str (decDigits n)) = str (a ++ (t ++ 32 :: decDigits n)) := by
  apply ByteArray.ext
  simp [str]

theorem tailT_snoc' {l l' : List Int} {n : Int} (h : l' = l ++ [n]) : tailT l' = tailT l ++ 32 :: decDigits n.toNat := by rw [h, tailT_snoc]

section
variable {w : World}

set_option maxHeartbeats 2000000 in
set_option maxRecDepth 100000 in
theorem text_walk (m : M) {u : Value} (hu : IdsAt w u m.2) (hl : m.2.length ≤ 1000) (hsz : m.1.size ≤ 1000) (hE : Tab w) : Calls Tryd.prog 22 #[.agg #[.string m.1, u]] w fun e w' => e = .returned (.tuple #[.string (textM m).1, .int .i64 (textM m).2]) ∧ Below w.heap.size w w' := by
  have hA : Below w.heap.size w (w.alloc (.cells #[.string m.1, u] 24)) := (Gr.alloc _ _).below
  have p1 := blk_new w #[.string m.1, u] 24
  obtain ⟨A, cap, rfl, hm, hc⟩ := hu
  replace hc := Aside.mk hc
  replace hE := Aside.mk hE
  have hs0 : w.heap.size ≤ (w.alloc (.cells #[.string m.1, .slice A m.2.length cap] 24)).heap.size := hA.size
  generalize hT : textM m = T
  replace hT := Aside.mk hT
  go_enter Tryd.func22, Tryd.ntmps22
  go_upto_region 1 with fail
  generalize w.alloc (.cells #[.string m.1, .slice A m.2.length cap] 24) = W at hA p1 hs0 ⊢
  obtain ⟨nb, hnb⟩ : ∃ n, n = w.heap.size := ⟨_, rfl⟩
  rw [← hnb] at p1 hA hs0 ⊢
  replace hnb := Aside.mk hnb
  have c0 := (blk_cell p1 0).trans rfl
  have c1 := (blk_cell p1 1).trans rfl
  have hC := right_walk m.1 (by omega) W
  cases hr : rightName m.1 with
  | false =>
    rw [hr] at hC
    replace hC := Aside.mk hC
    have hT2 := Aside.mk (hT.out.symm.trans (text_wrong hr))
    clear hr
    go_wp2_with (go_at_call 37; refine hC.out.mono ?_; rintro e w1 ⟨rfl, hb⟩; replace hb := Aside.mk hb)
    go_ret2
    exact ⟨by rw [hT2.out]; rfl, by rw [← hnb.out]; exact hA.trans (hb.out.mono hs0)⟩
  | true =>
    rw [hr] at hC
    replace hC := Aside.mk hC
    have hrs := (right_size hr).2
    replace hr := Aside.mk hr
    go_wp2_with (go_at_call 37; refine hC.out.mono ?_; rintro e w1 ⟨rfl, hb⟩; have c2 := (hb.cell (p := ⟨nb, 0, none⟩) (blk_lt p1)).trans c0; have c3 := (hb.cell (p := ⟨nb, 1, none⟩) (blk_lt p1)).trans c1; replace hb := Aside.mk hb)
    have hB1 := Aside.mk (hA.trans (hb.out.mono hs0))
    clear c0 c1 c2 c3 hA p1 hC hb hs0
    go_loopw [16, 4] (fun a t wr => ∃ i : Nat, a = .int .i64 (i : Int) ∧ i ≤ m.2.length ∧ t = .string (str (m.1.data.toList ++ tailT (m.2.take i))) ∧ (m.2.take i).all okId = true ∧ Below nb w wr) (fun a _ _ => m.2.length - (intOf a).toNat)
    case atStart => exact ⟨0, rfl, Nat.zero_le _, by simp [tailT], rfl, hB1.out⟩
    case round =>
      clear hB1
      obtain ⟨i, rfl, hi, rfl, hall, hB⟩ := hrel
      by_cases hlt : i < m.2.length
      · obtain ⟨b, o, rfl, hbl, g0⟩ := hc.out i hlt
        rw [← hnb.out] at hbl
        have x0 := (hB.cell (p := ⟨b, o + i, none⟩) hbl).trans g0
        have htk := List.take_succ_eq_append_getElem hlt
        cases hid : okId m.2[i] with
        | true =>
          have hk := okId_pos hid
          have hI := Aside.mk (itoa_any m.2[i] (by omega) hk.2 wr (hE.out.below (by rw [← hnb.out]; exact hB)))
          have hln := tailT_len _ hall
          have hds := dd_len (n := m.2[i].toNat) (by omega)
          rw [← str_size] at hds
          have hall2 : (m.2.take (i + 1)).all okId = true := by rw [htk, List.all_append, hall]; simp [hid]
          have happ := tail_app m.1.data.toList (tailT (m.2.take i)) m.2[i].toNat
          rw [← tailT_snoc' htk] at happ
          have hSz : (str (m.1.data.toList ++ tailT (m.2.take i))).size ≤ 20000 := by
            rw [str_size, List.length_append]
            have : m.1.data.toList.length = m.1.size := rfl
            rw [List.length_take] at hln
            omega
          replace hall2 := Aside.mk hall2
          replace htk := Aside.mk htk
          replace hid := Aside.mk hid
          generalize str (m.1.data.toList ++ tailT (m.2.take i)) = S at happ hSz ⊢
          generalize str (decDigits m.2[i].toNat) = sa at happ hds hI
          replace happ := Aside.mk happ
          obtain ⟨hk1, hk2⟩ := hk
          have hk1' : ¬ m.2[i] < 1 := by omega
          have hk2' : ¬ 999999999 < m.2[i] := by omega
          clear hall hln
          replace hB := Aside.mk hB
          go_wp2_with (go_at_call 38; refine hI.out.mono ?_; rintro e w2 ⟨rfl, hb2⟩; replace hb2 := Aside.mk hb2)
          go_roundw
          case rel => exact ⟨i + 1, by go_num, by omega, by rw [← happ.out], hall2.out, hB.out.trans (hb2.out.mono (by rw [hnb.out]; exact hB.out.size))⟩
          case measure => simp [intOf]; omega
        | false =>
          have hbad := text_bad (m := m) hr.out (List.getElem_mem hlt) hid
          have hT2 := Aside.mk (hT.out.symm.trans hbad)
          clear hbad
          have hk : m.2[i] < 1 ∨ 999999999 < m.2[i] := by
            unfold okId at hid
            simp at hid
            omega
          clear hid hall htk
          replace hB := Aside.mk hB
          rcases hk with hk | hk
          · go_wp2_with fail
            go_ret2
            exact ⟨by rw [hT2.out]; rfl, by rw [← hnb.out]; exact hB.out⟩
          · have hk' : ¬ m.2[i] < 1 := by omega
            go_wp2_with fail
            go_ret2
            exact ⟨by rw [hT2.out]; rfl, by rw [← hnb.out]; exact hB.out⟩
      · obtain rfl : i = m.2.length := by omega
        rw [List.take_length] at hall
        have ht := text_of hr.out hall
        have hT2 := Aside.mk (hT.out.symm.trans ht)
        rw [List.take_length]
        replace hB := Aside.mk hB
        clear ht hall
        go_wp2_with fail
        go_ret2
        exact ⟨by rw [hT2.out]; rfl, by rw [← hnb.out]; exact hB.out⟩
end
end Go.Proofs.YtmhpogajklihdaaDoor.C
