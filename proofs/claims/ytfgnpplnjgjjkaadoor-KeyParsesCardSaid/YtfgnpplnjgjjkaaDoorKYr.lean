/- The document's key of a text, told by the texts of right keys. -/
import Derived.Test.YtfgnpplnjgjjkaaDoorKRParse
namespace Go.Proofs.YtfgnpplnjgjjkaaDoor.T
open Go.RowKit Go.Lib Go.Proofs.YtfgnpplnjgjjkaaDoorW.PrintWords Go.Proofs.YtfgnpplnjgjjkaaDoor.K

theorem nok_word (n : Nat) (h : n ≤ 4096) : NOk (str (kword n)) := by
  unfold NOk kword
  split
  · exact .inl rfl
  · right
    have := number_dd (n := n) (by omega)
    simp only
    rw [this]
    omega
theorem nv_kword (n : Nat) (h : n ≤ 4096) : nv (str (kword n)) = n := by
  unfold nv kword
  split
  · rename_i h0
    subst h0
    rfl
  · rw [if_neg (by simpa using dd_star n)]
    exact number_dd (by omega)
theorem kword_of {x : ByteArray} (h : NOk x) : 0 ≤ nv x ∧ nv x ≤ 4096 ∧ x.data.toList = kword (nv x).toNat := by
  unfold nv
  by_cases hs : x.data.toList = [42]
  · rw [if_pos hs]
    exact ⟨by omega, by omega, hs⟩
  · rw [if_neg hs]
    obtain h | h := h
    · exact absurd h hs
    · refine ⟨by omega, h.2, ?_⟩
      have := (number_some (l := x.data.toList) (n := (number x.data.toList).toNat) (by omega)).1
      unfold kword
      rw [if_neg (by omega)]
      exact this

theorem krefParse_yes (a b c : Int) (hR : rightR 0 a b c = true) (w : World) :
    Calls Tryd.prog 33 #[.string (str (ktext3 a.toNat b.toNat c.toNat))] w fun e w' => e = .returned (.tuple #[.agg #[.int .i64 a, .int .i64 b, .int .i64 c], .bool true]) ∧ Below w.heap.size w w' := by
  obtain ⟨⟨a0, a1⟩, ⟨b0, b1⟩, ⟨c0, c1⟩⟩ := kright_parts hR
  have la := kword_len (n := a.toNat) (by omega)
  have lb := kword_len (n := b.toNat) (by omega)
  have lc := kword_len (n := c.toNat) (by omega)
  let xs : Nat → ByteArray := fun j => match j with
    | 0 => str (kword a.toNat)
    | 1 => str (kword b.toNat)
    | _ => str (kword c.toNat)
  have na : nv (xs 0) = a := (nv_kword a.toNat (by omega)).trans (by omega)
  have nb : nv (xs 1) = b := (nv_kword b.toNat (by omega)).trans (by omega)
  have nc : nv (xs 2) = c := (nv_kword c.toNat (by omega)).trans (by omega)
  have hx : pieces (str (ktext3 a.toNat b.toNat c.toNat)) = [xs 0, xs 1, xs 2] := by
    unfold pieces
    rw [show (str (ktext3 a.toNat b.toNat c.toNat)).data.toList = ktext3 a.toNat b.toNat c.toNat by simp, words_ktext3]
    rfl
  have hs : (str (ktext3 a.toNat b.toNat c.toNat)).size ≤ 1000 := by
    rw [str_size]; unfold ktext3; simp; omega
  refine (krefParse_three _ hs xs hx w).mono fun e w' h => ?_
  obtain ⟨⟨h1, _⟩, hb⟩ := h
  rw [na, nb, nc] at h1
  refine ⟨h1 ?_, hb⟩
  intro j hj
  obtain rfl | rfl | rfl : j = 0 ∨ j = 1 ∨ j = 2 := by omega
  · exact nok_word a.toNat (by omega)
  · exact nok_word b.toNat (by omega)
  · exact nok_word c.toNat (by omega)
theorem krefParse_nay (s : ByteArray) (hs : s.size ≤ 1000) (hn : ∀ a b c : Int, rightR 0 a b c = true → str (ktext3 a.toNat b.toNat c.toNat) ≠ s) (w : World) :
    Calls Tryd.prog 33 #[.string s] w fun e w' => e = .returned no3 ∧ Below w.heap.size w w' := by
  by_cases h3 : (pieces s).length = 3
  · obtain ⟨x, y, z, hw⟩ := words_three (l := s.data.toList) (by simpa [pieces] using h3)
    have hj := text_words hw
    let xs : Nat → ByteArray := fun j => match j with
      | 0 => str x
      | 1 => str y
      | _ => str z
    have hx : pieces s = [xs 0, xs 1, xs 2] := by
      unfold pieces
      rw [hw]
      rfl
    refine (krefParse_three s hs xs hx w).mono fun e w' h => ?_
    refine ⟨h.1.2 (fun hall => ?_), h.2⟩
    obtain ⟨p0, p1, p2⟩ := kword_of (hall 0 (by omega))
    obtain ⟨q0, q1, q2⟩ := kword_of (hall 1 (by omega))
    obtain ⟨r0, r1, r2⟩ := kword_of (hall 2 (by omega))
    refine hn (nv (xs 0)) (nv (xs 1)) (nv (xs 2)) ?_ ?_
    · simp [rightR, inR]
      omega
    · rw [← str_toList s, hj]
      unfold ktext3
      rw [← p2, ← q2, ← r2]
      rfl
  · exact krefParse_len s hs h3 w
end Go.Proofs.YtfgnpplnjgjjkaaDoor.T
