/- key.Parse, told by the texts of right keys. -/
import Derived.Test.YtfgnpplnjgjjkaaDoorKPs
namespace Go.Proofs.YtfgnpplnjgjjkaaDoor.T
open Go.RowKit Go.Lib Go.Proofs.YtfgnpplnjgjjkaaDoorW.PrintWords Go.Proofs.YtfgnpplnjgjjkaaDoor.K

theorem kok_word (n : Nat) (h : n < 1000000000) : KOk (str (kword n)) := by
  unfold KOk kword
  split
  · exact .inl rfl
  · exact .inr ⟨_, atoi_dd h⟩
theorem kv_kword (n : Nat) (h : n < 1000000000) : kv (str (kword n)) = n := by
  unfold kv kword
  split
  · rename_i h0
    subst h0
    rfl
  · rw [if_neg (by simpa using dd_star n)]
    exact wv_ok (atoi_dd h)
theorem kparse_yes (a b c : Int) (hR : rightR 0 a b c = true) (w : World) (hE : Env w) :
    Calls Tryd.prog 31 #[.string (str (ktext3 a.toNat b.toNat c.toNat))] w fun e w' => e = .returned (.tuple #[.agg #[.int .i64 a, .int .i64 b, .int .i64 c], .int .i64 0]) ∧ Below w.heap.size w w' := by
  obtain ⟨⟨a0, a1⟩, ⟨b0, b1⟩, ⟨c0, c1⟩⟩ := kright_parts hR
  have la := kword_len (n := a.toNat) (by omega)
  have lb := kword_len (n := b.toNat) (by omega)
  have lc := kword_len (n := c.toNat) (by omega)
  have va := kok_word a.toNat (by omega)
  have vb := kok_word b.toNat (by omega)
  have vc := kok_word c.toNat (by omega)
  have ea : ((a.toNat : Nat) : Int) = a := by omega
  have eb : ((b.toNat : Nat) : Int) = b := by omega
  have ec : ((c.toNat : Nat) : Int) = c := by omega
  let xs : Nat → ByteArray := fun j => match j with
    | 0 => str (kword a.toNat)
    | 1 => str (kword b.toNat)
    | _ => str (kword c.toNat)
  have w0 : kv (xs 0) = a := (kv_kword a.toNat (by omega)).trans ea
  have w1 : kv (xs 1) = b := (kv_kword b.toNat (by omega)).trans eb
  have w2 : kv (xs 2) = c := (kv_kword c.toNat (by omega)).trans ec
  have hx : pieces (str (ktext3 a.toNat b.toNat c.toNat)) = [xs 0, xs 1, xs 2] := by
    unfold pieces
    rw [show (str (ktext3 a.toNat b.toNat c.toNat)).data.toList = ktext3 a.toNat b.toNat c.toNat by simp, words_ktext3]
    rfl
  have hs : (str (ktext3 a.toNat b.toNat c.toNat)).size ≤ 100 := by
    rw [str_size]; unfold ktext3; simp; omega
  have hxs : ∀ j, j < 3 → (xs j).size ≤ 100 := by
    intro j hj
    have h0 : (xs 0).size ≤ 100 := by show (str _).size ≤ 100; rw [str_size]; omega
    have h1 : (xs 1).size ≤ 100 := by show (str _).size ≤ 100; rw [str_size]; omega
    have h2 : (xs 2).size ≤ 100 := by show (str _).size ≤ 100; rw [str_size]; omega
    obtain rfl | rfl | rfl : j = 0 ∨ j = 1 ∨ j = 2 := by omega
    · exact h0
    · exact h1
    · exact h2
  refine (kparse_three _ hs xs hx hxs w hE).mono fun e w' h => ?_
  obtain ⟨⟨h1, _⟩, hb⟩ := h
  rw [w0, w1, w2] at h1
  refine ⟨h1 ⟨?_, by rw [w0, w1, w2]; exact hR, by rw [w0, w1, w2]⟩, hb⟩
  intro j hj
  obtain rfl | rfl | rfl : j = 0 ∨ j = 1 ∨ j = 2 := by omega
  · exact va
  · exact vb
  · exact vc

theorem kparse_nay (s : ByteArray) (hs : s.size ≤ 100) (hn : ∀ a b c : Int, rightR 0 a b c = true → str (ktext3 a.toNat b.toNat c.toNat) ≠ s) (w : World) (hE : Env w) :
    Calls Tryd.prog 31 #[.string s] w fun e w' => e = .returned bad3 ∧ Below w.heap.size w w' := by
  by_cases h3 : (pieces s).length = 3
  · obtain ⟨x, y, z, hw⟩ := words_three (l := s.data.toList) (by simpa [pieces] using h3)
    have hj := text_words hw
    have hsz : s.data.toList.length = s.size := rfl
    rw [hj] at hsz
    simp at hsz
    let xs : Nat → ByteArray := fun j => match j with
      | 0 => str x
      | 1 => str y
      | _ => str z
    have hx : pieces s = [xs 0, xs 1, xs 2] := by
      unfold pieces
      rw [hw]
      rfl
    have hxs : ∀ j, j < 3 → (xs j).size ≤ 100 := by
      intro j hj
      have h0 : (xs 0).size ≤ 100 := by show (str _).size ≤ 100; rw [str_size]; omega
      have h1 : (xs 1).size ≤ 100 := by show (str _).size ≤ 100; rw [str_size]; omega
      have h2 : (xs 2).size ≤ 100 := by show (str _).size ≤ 100; rw [str_size]; omega
      obtain rfl | rfl | rfl : j = 0 ∨ j = 1 ∨ j = 2 := by omega
      · exact h0
      · exact h1
      · exact h2
    refine (kparse_three _ hs xs hx hxs w hE).mono fun e w' h => ?_
    exact ⟨h.1.2 (fun hp => hn _ _ _ hp.2.1 hp.2.2), h.2⟩
  · exact kparse_len s hs h3 w hE

end Go.Proofs.YtfgnpplnjgjjkaaDoor.T
