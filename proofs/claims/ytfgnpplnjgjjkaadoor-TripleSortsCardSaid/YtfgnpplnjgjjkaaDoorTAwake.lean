/- The walk of layer 2's example; triple.Parse, told by the texts of right triples. -/
import Derived.Test.YtfgnpplnjgjjkaaDoorTParse
namespace Go.Proofs.YtfgnpplnjgjjkaaDoor.T
open Go.RowKit Go.Lib Go.Proofs.YtfgnpplnjgjjkaaDoorW.PrintWords Go.Proofs.YtfgnpplnjgjjkaaDoor.K

theorem parse_yes (a b c : Int) (hR : rightR 1 a b c = true) (w : World) (hE : Env w) :
    Calls Tryd.prog 27 #[.string (str (text3 a.toNat b.toNat c.toNat))] w fun e w' => e = .returned (.tuple #[.agg #[.int .i64 a, .int .i64 b, .int .i64 c], .int .i64 0]) ∧ Below w.heap.size w w' := by
  obtain ⟨⟨a0, a1⟩, ⟨b0, b1⟩, ⟨c0, c1⟩⟩ := right_parts hR
  have la := dd_len (n := a.toNat) (by omega)
  have lb := dd_len (n := b.toNat) (by omega)
  have lc := dd_len (n := c.toNat) (by omega)
  have va := atoi_dd (n := a.toNat) (by omega)
  have vb := atoi_dd (n := b.toNat) (by omega)
  have vc := atoi_dd (n := c.toNat) (by omega)
  have ea : ((a.toNat : Nat) : Int) = a := by omega
  have eb : ((b.toNat : Nat) : Int) = b := by omega
  have ec : ((c.toNat : Nat) : Int) = c := by omega
  rw [ea] at va; rw [eb] at vb; rw [ec] at vc
  let xs : Nat → ByteArray := fun j => match j with
    | 0 => str (decDigits a.toNat)
    | 1 => str (decDigits b.toNat)
    | _ => str (decDigits c.toNat)
  have w0 : wv (xs 0) = a := wv_ok va
  have w1 : wv (xs 1) = b := wv_ok vb
  have w2 : wv (xs 2) = c := wv_ok vc
  have hx : pieces (str (text3 a.toNat b.toNat c.toNat)) = [xs 0, xs 1, xs 2] := by
    unfold pieces
    rw [show (str (text3 a.toNat b.toNat c.toNat)).data.toList = text3 a.toNat b.toNat c.toNat by simp, words_text3]
    rfl
  have hs : (str (text3 a.toNat b.toNat c.toNat)).size ≤ 100 := by
    rw [str_size]; unfold text3; simp; omega
  have hxs : ∀ j, j < 3 → (xs j).size ≤ 100 := by
    intro j hj
    have h0 : (xs 0).size ≤ 100 := by show (str _).size ≤ 100; rw [str_size]; omega
    have h1 : (xs 1).size ≤ 100 := by show (str _).size ≤ 100; rw [str_size]; omega
    have h2 : (xs 2).size ≤ 100 := by show (str _).size ≤ 100; rw [str_size]; omega
    obtain rfl | rfl | rfl : j = 0 ∨ j = 1 ∨ j = 2 := by omega
    · exact h0
    · exact h1
    · exact h2
  refine (parse_three _ hs xs hx hxs w hE).mono fun e w' h => ?_
  obtain ⟨⟨h1, _⟩, hb⟩ := h
  rw [w0, w1, w2] at h1
  refine ⟨h1 ⟨?_, by rw [w0, w1, w2]; exact hR, by rw [w0, w1, w2]⟩, hb⟩
  intro j hj
  obtain rfl | rfl | rfl : j = 0 ∨ j = 1 ∨ j = 2 := by omega
  · exact ⟨a, va⟩
  · exact ⟨b, vb⟩
  · exact ⟨c, vc⟩

theorem words_three {l : List UInt8} (h : (words l).length = 3) : ∃ x y z, words l = [x, y, z] := by
  match words l, h with
  | [x, y, z], _ => exact ⟨x, y, z, rfl⟩

theorem parse_nay (s : ByteArray) (hs : s.size ≤ 100) (hn : ∀ a b c : Int, rightR 1 a b c = true → str (text3 a.toNat b.toNat c.toNat) ≠ s) (w : World) (hE : Env w) :
    Calls Tryd.prog 27 #[.string s] w fun e w' => e = .returned bad3 ∧ Below w.heap.size w w' := by
  by_cases h3 : (pieces s).length = 3
  · obtain ⟨x, y, z, hw⟩ := words_three (l := s.data.toList) (by simpa [pieces] using h3)
    have hj := text_words hw
    have hsz : s.data.toList.length = s.size := rfl
    rw [hj] at hsz
    simp at hsz
    let xs : Nat → ByteArray := fun j => match j with
      | 0 => str x
      | 1 => str y
      | _ => str z
    have hx : pieces s = [xs 0, xs 1, xs 2] := by
      unfold pieces
      rw [hw]
      rfl
    have hxs : ∀ j, j < 3 → (xs j).size ≤ 100 := by
      intro j hj
      have h0 : (xs 0).size ≤ 100 := by show (str _).size ≤ 100; rw [str_size]; omega
      have h1 : (xs 1).size ≤ 100 := by show (str _).size ≤ 100; rw [str_size]; omega
      have h2 : (xs 2).size ≤ 100 := by show (str _).size ≤ 100; rw [str_size]; omega
      obtain rfl | rfl | rfl : j = 0 ∨ j = 1 ∨ j = 2 := by omega
      · exact h0
      · exact h1
      · exact h2
    refine (parse_three _ hs xs hx hxs w hE).mono fun e w' h => ?_
    exact ⟨h.1.2 (fun hp => hn _ _ _ hp.2.1 hp.2.2), h.2⟩
  · exact parse_len s hs h3 w hE

theorem example_nay (a b c : Int) : str (text3 a.toNat b.toNat c.toNat) ≠ ⟨#[48, 51, 32, 49, 32, 50]⟩ := fun h => by
  have h := str_inj (b := [48, 51, 32, 49, 32, 50]) h
  have hw := congrArg words h
  rw [words_text3] at hw
  have e : words [48, 51, 32, 49, 32, 50] = [[48, 51], [49], [50]] := by decide
  rw [e] at hw
  simp only [List.cons.injEq] at hw
  have := dd_head a.toNat (by rw [hw.1]; decide)
  rw [hw.1] at this
  exact this rfl

attribute [local go_sem high] eq23 build23 build23z

set_option maxHeartbeats 2000000 in
set_option maxRecDepth 100000 in
theorem awake02_walk (w : World) (hE : Env w) : Calls Tryd.prog 25 #[] w fun e w' => e = .returned (.bool true) ∧ Below w.heap.size w w' := by
  have e1 : (⟨#[51, 32, 49, 32, 52, 48, 57, 54]⟩ : ByteArray) = str (text3 (3 : Int).toNat (1 : Int).toNat (4096 : Int).toNat) := by
    have h : text3 3 1 4096 = [51, 32, 49, 32, 52, 48, 57, 54] := by
      have d4 : decDigits 4096 = [52, 48, 57, 54] := by
        rw [decDigits, dif_neg (by decide), decDigits, dif_neg (by decide), decDigits_two (by decide) (by decide)]; rfl
      unfold text3
      rw [decDigits_one (by decide), decDigits_one (by decide), d4]
      rfl
    rw [show (3 : Int).toNat = 3 from rfl, show (1 : Int).toNat = 1 from rfl, show (4096 : Int).toNat = 4096 from rfl, h]
  have C1 : ∀ w, Env w → Calls Tryd.prog 27 #[.string ⟨#[51, 32, 49, 32, 52, 48, 57, 54]⟩] w fun e w' => e = .returned (.tuple #[.agg #[.int .i64 3, .int .i64 1, .int .i64 4096], .int .i64 0]) ∧ Below w.heap.size w w' := fun w h => by
    rw [e1]; exact parse_yes 3 1 4096 (by decide) w h
  have C2 : ∀ w, Env w → Calls Tryd.prog 27 #[.string ⟨#[48, 51, 32, 49, 32, 50]⟩] w fun e w' => e = .returned bad3 ∧ Below w.heap.size w w' := fun w h => parse_nay _ (by decide) (fun a b c _ => example_nay a b c) w h
  replace C1 := Aside0.mk C1
  replace C2 := Aside0.mk C2
  replace hE := Aside0.mk hE
  clear e1
  go_enter Tryd.func25, Tryd.ntmps25
  go_wp2_with (first | (go_at_call 27; (with_reducible show Calls Tryd.prog 27 #[.string ⟨#[51, 32, 49, 32, 52, 48, 57, 54]⟩] _ _); refine (C1.out _ hE.out).mono ?_; rintro e w1 ⟨rfl, hb1⟩; replace hb1 := Aside0.mk hb1) | (go_at_call 27; (with_reducible show Calls Tryd.prog 27 #[.string ⟨#[48, 51, 32, 49, 32, 50]⟩] _ _); refine (C2.out _ ((hE.out.below hb1.out).below ((Below.refl _ _).alloc (Nat.le_refl _) _))).mono ?_; rintro e w2 ⟨rfl, hb2⟩; have hq := blk_below (blk_new w1 (.cells #[.int .i64 3, .int .i64 1, .int .i64 4096] 23)) hb2; have q0 : w2.cell? ⟨w1.heap.size, 0, none⟩ = some (.int .i64 3) := (blk_cell hq 0).trans rfl; have q1 : w2.cell? ⟨w1.heap.size, 1, none⟩ = some (.int .i64 1) := (blk_cell hq 1).trans rfl; have q2 : w2.cell? ⟨w1.heap.size, 2, none⟩ = some (.int .i64 4096) := (blk_cell hq 2).trans rfl; have hqa := blk_alloc hq (.cells #[.int .i64 0, .int .i64 0, .int .i64 0] 23); have p0 : (w2.alloc (.cells #[.int .i64 0, .int .i64 0, .int .i64 0] 23)).cell? ⟨w1.heap.size, 0, none⟩ = some (.int .i64 3) := (blk_cell hqa 0).trans rfl; have p1 : (w2.alloc (.cells #[.int .i64 0, .int .i64 0, .int .i64 0] 23)).cell? ⟨w1.heap.size, 1, none⟩ = some (.int .i64 1) := (blk_cell hqa 1).trans rfl; have p2 : (w2.alloc (.cells #[.int .i64 0, .int .i64 0, .int .i64 0] 23)).cell? ⟨w1.heap.size, 2, none⟩ = some (.int .i64 4096) := (blk_cell hqa 2).trans rfl; clear hq hqa; replace hb2 := Aside0.mk hb2))
  go_ret
  have hB2 : Below w.heap.size w w2 := (hb1.out.trans (((Below.refl w1.heap.size w1).alloc (Nat.le_refl _) _).mono hb1.out.size)).trans (hb2.out.mono (by rw [World.size_alloc]; have := hb1.out.size; omega))
  exact ⟨rfl, hB2.alloc hB2.size _⟩
end Go.Proofs.YtfgnpplnjgjjkaaDoor.T
