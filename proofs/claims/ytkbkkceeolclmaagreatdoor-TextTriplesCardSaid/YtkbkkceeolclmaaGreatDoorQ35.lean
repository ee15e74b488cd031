/- The law's table of names, and the document's list; whether they are alike. -/
import Derived.Test.YtkbkkceeolclmaaGreatDoorQ34
set_option linter.unusedVariables false
set_option linter.unusedSimpArgs false
namespace Go.TX
def okIn (inp : List (List UInt8)) : Prop := inp.length ≤ 40 ∧ ∀ x ∈ inp, x.length ≤ 60
def tabN (inp : List (List UInt8)) : List (List UInt8) := inp.foldl internN []
theorem internN_len (ns : List (List UInt8)) (s : List UInt8) : (internN ns s).length ≤ ns.length + 1 := by
  unfold internN
  split
  · exact addN_len ns s
  · omega
theorem foldN_len : ∀ (l : List (List UInt8)) (ns : List (List UInt8)), (l.foldl internN ns).length ≤ ns.length + l.length
  | [], ns => by simp
  | x :: l, ns => by
    have := foldN_len l (internN ns x)
    have h := internN_len ns x
    simp only [List.foldl_cons, List.length_cons]
    omega
theorem internN_names {ns : List (List UInt8)} (h : Names ns) (s : List UInt8) : Names (internN ns s) := by
  unfold internN
  split
  · rename_i hr
    exact h.add hr.1
  · exact h
theorem foldN_names : ∀ (l : List (List UInt8)) (ns : List (List UInt8)), Names ns → Names (l.foldl internN ns)
  | [], ns, h => h
  | x :: l, ns, h => foldN_names l _ (internN_names h x)
theorem names_nil : Names [] := ⟨List.nodup_nil, fun _ h => by simp at h⟩
theorem tabN_names (inp : List (List UInt8)) : Names (tabN inp) := foldN_names inp [] names_nil
theorem tabN_len (inp : List (List UInt8)) : (tabN inp).length ≤ inp.length := by
  have := foldN_len inp []
  unfold tabN
  simp only [List.length_nil] at this
  omega
theorem names_short {ns : List (List UInt8)} (h : Names ns) : ∀ s ∈ ns, s.length ≤ 32 := fun s hs => by
  have := (right_size (h.2 s hs)).2
  rwa [str_size] at this
end Go.TX
namespace Go.Proofs.YtkbkkceeolclmaaGreatDoor.X
open Go.RowKit Go.TX Go.Proofs.YtkbkkceeolclmaaGreatDoorW.PrintWords Go.Proofs.YtkbkkceeolclmaaGreatDoorL
theorem tight' {w : World} {F : Nat → Prop} {t : Nat} {ns : List (List UInt8)} (h : Tb w F t ns) : Tb w (fun b => F b ∧ b < w.heap.size) t ns := by
  obtain ⟨N, m, h1, h2, h3, h4, h5, h6⟩ := h
  exact ⟨N, m, h1, h2, h3, ⟨h4, blk_lt h1⟩, ⟨h5, h3.lt⟩, fun b hb => ⟨h6 b hb, (owner_lt h2 hb).2⟩⟩
/-- A table and the document's list of the same names, both made since w. -/
def TS (w W : World) (t : Nat) (v : Value) (ns : List (List UInt8)) : Prop :=
  ∃ T P, Tb W T t ns ∧ DN w.heap.size P W v ns ∧ (∀ b, T b → w.heap.size ≤ b ∧ b < W.heap.size) ∧ (∀ b, P b → w.heap.size ≤ b ∧ b < W.heap.size) ∧ (∀ b, T b → ¬ P b) ∧ Below w.heap.size w W
theorem DN.tight {n : Nat} {P : Nat → Prop} {w : World} {v : Value} {ns : List (List UInt8)} (h : DN n P w v ns) : DN n (fun b => P b ∧ n ≤ b ∧ b < w.heap.size) w v ns := (Kd.R_bound h |> fun q => Kd.R_mono q fun _ hb => ⟨hb.1, hb.2.1, hb.2.2.1⟩)
theorem add_off (b o n : Nat) : (⟨b, o, none⟩ : Addr).add n = ⟨b, o + n, none⟩ := by
  unfold Addr.add
  split
  · rename_i e; subst e; rfl
  · rfl
theorem row_at {α : Type} {R : α → List Value → Prop} {size : Nat} {w : World} {A : Option Addr} {n : Nat} {xs : List α} (h : ReadsRow R size w A n xs) (hs : 0 < size) {j : Nat} (hj : j < xs.length) :
    ∃ b o cs, A = some ⟨b, o, none⟩ ∧ b < w.heap.size ∧ cs.length = size ∧ R xs[j] cs ∧ ∀ i u, cs[i]? = some u → w.cell? ⟨b, o + (j * size + i), none⟩ = some u := by
  obtain ⟨h1, _, h2⟩ := h
  obtain ⟨ad, rfl, h3⟩ := h2 (by omega)
  obtain ⟨c0, l0, _, r0⟩ := h3 0 xs[0] (List.getElem?_eq_getElem (by omega))
  obtain ⟨u0, hu0⟩ : ∃ u, c0[0]? = some u := ⟨c0[0], List.getElem?_eq_getElem (by omega)⟩
  have hc := r0 0 u0 hu0
  rw [Nat.zero_mul, Nat.add_zero] at hc
  have hz : ad.add 0 = ad := by unfold Addr.add; simp
  rw [hz] at hc
  obtain ⟨_, _, _, _, hsp⟩ := World.shape?_of_cell? hc
  have hlt := World.block_lt_of_cell? _ _ hc
  obtain ⟨b, o, sp⟩ := ad
  dsimp only at hsp
  subst hsp
  obtain ⟨c, l, r, g⟩ := h3 j xs[j] (List.getElem?_eq_getElem hj)
  refine ⟨b, o, c, rfl, hlt, l, r, fun i u hu => ?_⟩
  have := g i u hu
  rwa [add_off] at this
theorem kds_at {w : World} {A : Option Addr} {ns : List (List UInt8)} (h : Kd.C Kd.string w A ns.length (ns.map str)) {j : Nat} (hj : j < ns.length) : ∃ b o, A = some ⟨b, o, none⟩ ∧ b < w.heap.size ∧ w.cell? ⟨b, o + j, none⟩ = some (.string (str ns[j])) := by
  obtain ⟨b, o, cs, e, hl, h1, h2, h3⟩ := row_at (R := Kd.string.K w) (size := 1) h (by decide) (j := j) (by simpa using hj)
  have hc : cs = [.string (str ns[j])] := by
    have : cs = [Value.string ((ns.map str)[j]'(by simpa using hj))] := h2
    simpa using this
  have := h3 0 (.string (str ns[j])) (by rw [hc]; rfl)
  exact ⟨b, o, e, hl, by simpa using this⟩
theorem take_snoc_fold (inp : List (List UInt8)) (j : Nat) (hj : j < inp.length) : tabN (inp.take (j + 1)) = internN (tabN (inp.take j)) inp[j] := by
  unfold tabN
  rw [List.take_succ_eq_append_getElem hj, List.foldl_append]
  rfl
set_option maxRecDepth 100000 in
set_option maxHeartbeats 4000000 in
theorem table_walk (inp : List (List UInt8)) (A : Option Addr) (cap : Nat) (w : World) (hC : Kd.C Kd.string w A inp.length (inp.map str)) (hcap : inp.length ≤ cap) :
    Calls Tryz.prog 8 #[.slice A inp.length cap] w fun e W => (okIn inp ∧ ∃ t v, e = .returned (.tuple #[.pointer (some ⟨t, 0, none⟩), v, .bool true]) ∧ TS w W t v (tabN inp)) ∨ (¬ okIn inp ∧ e = .returned (.tuple #[.pointer none, .slice none 0 0, .bool false]) ∧ Below w.heap.size w W) := by
  have h20 := Aside0.mk (new20 w)
  have hlm : inp.length ≤ 9223372036854775807 := hC.2.1
  replace hC := Aside0.mk hC
  by_cases h40 : inp.length ≤ 40
  · have h40' : ¬ (40 : Int) < (inp.length : Int) := by omega
    go_enter Tryz.func8, Tryz.ntmps8
    go_upto_region 6 with (go_at_call 20; refine h20.out.mono ?_; rintro e w1 ⟨t, rfl, hb1, ht1⟩; replace hb1 := Aside0.mk hb1; replace ht1 := Aside0.mk ht1)
    go_loopw [22, 6] (fun i v wr => ∃ j : Nat, i = .int .i64 j ∧ j ≤ inp.length ∧ (∀ q (hq : q < inp.length), q < j → inp[q].length ≤ 60) ∧ TS w wr t v (tabN (inp.take j))) (fun i _ _ => inp.length - (intOf i).toNat)
    case atStart => exact ⟨0, rfl, Nat.zero_le _, fun q _ h => absurd h (Nat.not_lt_zero _), _, fun _ => False, ht1.out, Kd.R_nil _ _ _ _ _, fun b q => q, fun b q => q.elim, fun b _ q => q.elim, hb1.out⟩
    case round =>
      obtain ⟨j, rfl, hj, hall, T, P, hT, hP, hTb, hPb, hTP, hB⟩ := hrel
      clear ht1 hb1
      clear w1
      obtain ⟨Av, cv, rfl, hcv, _⟩ := hP.reads
      have hln := tabN_len (inp.take j)
      rw [List.length_take] at hln
      by_cases hlt : j < inp.length
      · obtain ⟨b, o, e, hbl, hc⟩ := kds_at hC.out hlt
        subst e
        have hc1 := (hB.cell (p := ⟨b, o + j, none⟩) hbl).trans hc
        by_cases h60 : inp[j].length ≤ 60
        · have hsz : ¬ (60 : Int) < ((str inp[j]).size : Int) := by rw [str_size]; omega
          have hri := Aside0.mk (rintern_walk (w0 := w) rfl hB hP (by omega) inp[j] (by omega))
          have hsn := Aside0.mk (take_snoc_fold inp j hlt)
          replace hT := Aside0.mk hT
          replace hTb := Aside0.mk hTb
          replace hPb := Aside0.mk hPb
          replace hTP := Aside0.mk hTP
          replace hP := Aside0.mk hP
          replace hB := Aside0.mk hB
          go_upto_region 12 with (go_at_call 26; refine hri.out.mono ?_; rintro e w2 ⟨v2, r2, r3, rfl, hd2, hB2, hk2⟩; replace hd2 := Aside0.mk hd2; replace hB2 := Aside0.mk hB2; replace hk2 := Aside0.mk hk2)
          have hT2 := Aside0.mk (hT.out.move (W := w2) (fun b q hl => hk2.out.2 b hl (hTP.out b q)))
          have hd3 := Aside0.mk hd2.out.tight
          have hi := Aside0.mk (intern_walk hT2.out inp[j] (by omega) (by omega))
          obtain ⟨Av2, cv2, rfl, _, _⟩ := hd2.out.reads
          have hsz2 := hk2.out.1
          go_wp2_with (go_at_call 21; refine hi.out.mono ?_; rintro e w3 ⟨⟨u3, rfl⟩, hfr3, ht3⟩; replace hfr3 := Aside0.mk hfr3; replace ht3 := Aside0.mk ht3)
          go_roundw
          case rel =>
            refine ⟨j + 1, by go_num, by omega, fun q hq hqj => ?_, fun b => New w2 T b ∧ b < w3.heap.size, fun b => New wr P b ∧ w.heap.size ≤ b ∧ b < w2.heap.size, ?_, ?_, fun b q => ⟨?_, q.2⟩, fun b q => ⟨q.2.1, Nat.lt_of_lt_of_le q.2.2 hfr3.out.ch.size⟩, fun b q1 q2 => ?_, ?_⟩
            · by_cases e : q = j
              · subst e; exact h60
              · exact hall q hq (by omega)
            · rw [hsn.out]; exact tight' ht3.out
            · rw [hsn.out]
              refine hd3.out.step fun b q hl => hfr3.out.ch.block b hl (fun q2 => ?_)
              rcases q.1 with q1 | q1
              · exact hTP.out b q2 q1
              · have := (hTb.out b q2).2; omega
            · rcases q.1 with q1 | q1
              · exact (hTb.out b q1).1
              · have := hB2.out.size; omega
            · rcases q1.1 with q3 | q3
              · rcases q2.1 with q4 | q4
                · exact hTP.out b q3 q4
                · have := (hTb.out b q3).2; omega
              · omega
            · exact hB2.out.trans (hfr3.out.below hB2.out.size (fun b q => (hTb.out b q).1))
          case measure => simp [intOf]; omega
        · have hsz : (60 : Int) < ((str inp[j]).size : Int) := by rw [str_size]; omega
          have hno : ¬ okIn inp := fun q => h60 (q.2 _ (List.getElem_mem hlt))
          replace hB := Aside0.mk hB
          clear hT hP hTb hPb hTP
          go_wp2
          refine bodyPost_ret (v := .tuple #[.pointer none, .slice none 0 0, .bool false]) (by simp [results, Tryz.results8, go_sem]) rfl (.inr ⟨hno, rfl, hB.out⟩)
      · obtain rfl : j = inp.length := by omega
        rw [List.take_length] at hT hP ⊢
        have hok : okIn inp := ⟨h40, fun x hx => by
          obtain ⟨q, hq, rfl⟩ := List.getElem_of_mem hx
          exact hall q hq hq⟩
        have hts := Aside0.mk (show TS w wr t (.slice Av (tabN inp).length cv) (tabN inp) from ⟨T, P, hT, hP, hTb, hPb, hTP, hB⟩)
        clear hT hP hTb hPb hTP hB
        go_wp2
        refine bodyPost_ret (v := .tuple #[.pointer (some ⟨t, 0, none⟩), (.slice Av (tabN inp).length cv), .bool true]) (by simp [results, Tryz.results8, go_sem]) rfl (.inl ⟨hok, _, _, rfl, hts.out⟩)
  · have h40' : (40 : Int) < (inp.length : Int) := by omega
    have hno : ¬ okIn inp := fun q => h40 q.1
    go_enter Tryz.func8, Tryz.ntmps8
    go_wp2_with (go_at_call 20; refine h20.out.mono ?_; rintro e w1 ⟨t, rfl, hb1, ht1⟩; replace hb1 := Aside0.mk hb1; replace ht1 := Aside0.mk ht1)
    refine bodyPost_ret (v := .tuple #[.pointer none, .slice none 0 0, .bool false]) (by simp [results, Tryz.results8, go_sem]) rfl (.inr ⟨hno, rfl, hb1.out⟩)
set_option maxRecDepth 100000 in
theorem has_walk {w : World} {T : Nat → Prop} {t : Nat} {ns : List (List UInt8)} (h : Tb w T t ns) (A : Option Addr) (cap : Nat) (hC : Kd.C Kd.string w A ns.length (ns.map str)) (hcap : ns.length ≤ cap) (hl : ns.length ≤ 100000) :
    Calls Tryz.prog 16 #[.pointer (some ⟨t, 0, none⟩), .slice A ns.length cap] w fun e W => e = .returned (.bool true) ∧ w = W := by
  have h19 := Aside0.mk (len_walk h)
  have h39 := Aside0.mk (fun (j : Nat) (hj : j < ns.length) => name_walk h ((j : Int) + 1) (by omega) (by omega) (by omega))
  replace hC := Aside0.mk hC
  go_enter Tryz.func16, Tryz.ntmps16
  go_upto_region 4 with (go_at_call 19; refine h19.out.mono ?_; rintro e w1 ⟨rfl, rfl⟩)
  go_loopw [16] (fun i wr => ∃ j : Nat, i = .int .i64 j ∧ j ≤ ns.length ∧ w = wr) (fun i _ => ns.length - (intOf i).toNat)
  case atStart => exact ⟨0, rfl, Nat.zero_le _, rfl⟩
  case round =>
    obtain ⟨j, rfl, hj, rfl⟩ := hrel
    by_cases hlt : j < ns.length
    · obtain ⟨b, o, e, hbl, hc⟩ := kds_at hC.out hlt
      subst e
      have hcall := h39.out j hlt
      have hnn : nameN ns ((j : Int) + 1) = some ns[j] := by
        unfold nameN
        rw [if_pos (by omega), show ((j : Int) + 1 - 1).toNat = j by omega, List.getElem?_eq_getElem hlt]
      rw [hnn] at hcall
      simp only [Option.getD_some, Option.isSome_some] at hcall
      replace hcall := Aside0.mk hcall
      generalize str ns[j] = S at hcall hc
      clear hnn
      go_wp2_with (go_at_call 39; refine hcall.out.mono ?_; rintro e w2 ⟨rfl, rfl⟩)
      go_roundw
      case rel => exact ⟨j + 1, by go_num, by omega, by first | rfl | trivial⟩
      case measure => simp [intOf]; omega
    · obtain rfl : j = ns.length := by omega
      go_wp2
      go_ret
      exact ⟨rfl, rfl⟩
end Go.Proofs.YtkbkkceeolclmaaGreatDoor.X
