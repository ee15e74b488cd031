/- Texts of matches: plain. -/
import Derived.Test.YtmhpogajklihdaaDoorCWords
import Derived.Test.YtmhpogajklihdaaDoorCPlain
namespace Go.Proofs.YtmhpogajklihdaaDoor.C
open Go.Lib

/-- A string out of bytes. -/
abbrev str (l : List UInt8) : ByteArray := ⟨l.toArray⟩
theorem str_toList (s : ByteArray) : str s.data.toList = s := by cases s; simp [str]
theorem str_size (l : List UInt8) : (str l).size = l.length := by simp [ByteArray.size]
theorem str_inj {a b : List UInt8} (h : str a = str b) : a = b := by
  have := congrArg (fun s : ByteArray => s.data.toList) h
  simpa [str] using this

/-- The bytes of names. -/
def okN (n : Nat) : Bool := (decide (97 ≤ n) && decide (n ≤ 122)) || (decide (65 ≤ n) && decide (n ≤ 90)) || (decide (48 ≤ n) && decide (n ≤ 57)) || decide (n = 45) || decide (n = 95)
def rightName (s : ByteArray) : Bool := decide (1 ≤ s.size) && decide (s.size ≤ 32) && s.data.toList.all fun b => okN b.toNat
def okId (n : Int) : Bool := decide (1 ≤ n) && decide (n ≤ 999999999)
def tailT (ids : List Int) : List UInt8 := ids.flatMap fun n => 32 :: decDigits n.toNat
def textB (m : M) : ByteArray := str (m.1.data.toList ++ tailT m.2)
/-- A match's text, and the error's number. -/
def textM (m : M) : ByteArray × Int := if rightName m.1 then (if m.2.all okId then (textB m, 0) else (⟨#[]⟩, 13)) else (⟨#[]⟩, 1)

theorem right_size {s : ByteArray} (h : rightName s = true) : 1 ≤ s.size ∧ s.size ≤ 32 := by
  unfold rightName at h
  simp at h
  omega
theorem right_blank {s : ByteArray} (h : rightName s = true) : (32 : UInt8) ∉ s.data.toList := fun hm => by
  unfold rightName at h
  rw [Bool.and_eq_true, List.all_eq_true] at h
  have := h.2 _ hm
  revert this; decide
theorem tailT_snoc (ids : List Int) (n : Int) : tailT (ids ++ [n]) = tailT ids ++ 32 :: decDigits n.toNat := by simp [tailT]
theorem tailT_len (ids : List Int) (h : ids.all okId = true) : (tailT ids).length ≤ 10 * ids.length := by
  induction ids with
  | nil => simp [tailT]
  | cons n ids ih =>
    rw [List.all_cons, Bool.and_eq_true] at h
    have h1 := ih h.2
    have h2 := h.1
    unfold okId at h2
    simp at h2
    have h3 := dd_len (n := n.toNat) (by omega)
    have e : tailT (n :: ids) = (32 :: decDigits n.toNat) ++ tailT ids := rfl
    rw [e, List.length_append, List.length_cons, List.length_cons]
    omega
theorem words_text (a : List UInt8) (ids : List Int) (h : (32 : UInt8) ∉ a) : words (a ++ tailT ids) = a :: ids.map fun n => decDigits n.toNat := by
  induction ids generalizing a with
  | nil => rw [show tailT [] = [] from rfl, List.append_nil]; exact words_one h
  | cons n ids ih =>
    have e : tailT (n :: ids) = 32 :: (decDigits n.toNat ++ tailT ids) := rfl
    rw [e, words_app h, ih _ (dd_blank _)]
    rfl
theorem words_of {m : M} {s : ByteArray} (h : textM m = (s, 0)) : rightName m.1 = true ∧ m.2.all okId = true ∧ words s.data.toList = m.1.data.toList :: m.2.map (fun n => decDigits n.toNat) ∧ s = textB m := by
  unfold textM at h
  split at h
  · rename_i hr
    split at h
    · rename_i ho
      have e := congrArg Prod.fst h
      simp only at e
      refine ⟨hr, ho, ?_, e.symm⟩
      rw [← e]
      exact words_text _ _ (right_blank hr)
    · exact absurd (congrArg Prod.snd h) (show ¬ ((13 : Int) = 0) by decide)
  · exact absurd (congrArg Prod.snd h) (show ¬ ((1 : Int) = 0) by decide)
theorem text_of {m : M} (hr : rightName m.1 = true) (ho : m.2.all okId = true) : textM m = (textB m, 0) := by
  unfold textM
  rw [hr, ho]
  rfl
theorem dd_inj {a b : Nat} (h : decDigits a = decDigits b) : a = b := by
  have := decFrom_dd a
  rw [h, decFrom_dd] at this
  exact (Option.some.inj this).symm
theorem okId_pos {n : Int} (h : okId n = true) : 1 ≤ n ∧ n ≤ 999999999 := by
  unfold okId at h
  simpa using h
theorem text_inj {m m' : M} {s : ByteArray} (h : textM m = (s, 0)) (h' : textM m' = (s, 0)) : m = m' := by
  obtain ⟨_, o, w, _⟩ := words_of h
  obtain ⟨_, o', w', _⟩ := words_of h'
  rw [w] at w'
  obtain ⟨e1, e2⟩ := List.cons.inj w'
  refine Prod.ext ?_ ?_
  · rw [← str_toList m.1, e1, str_toList]
  · rw [List.all_eq_true] at o o'
    have key : ∀ (a b : List Int), (∀ n ∈ a, okId n = true) → (∀ n ∈ b, okId n = true) → a.map (fun n => decDigits n.toNat) = b.map (fun n => decDigits n.toNat) → a = b := by
      intro a
      induction a with
      | nil => intro b _ _ h; cases b with
        | nil => rfl
        | cons _ _ => simp at h
      | cons x a ih =>
        intro b h1 h2 h
        cases b with
        | nil => simp at h
        | cons y b =>
          simp only [List.map_cons, List.cons.injEq] at h
          have k1 := okId_pos (h1 x (by simp))
          have k2 := okId_pos (h2 y (by simp))
          have := dd_inj h.1
          rw [show x = y by omega, ih b (fun n hn => h1 n (by simp [hn])) (fun n hn => h2 n (by simp [hn])) h.2]
    exact key _ _ o o' e2
/-- The words of a string, as strings. -/
def pieces (s : ByteArray) : List ByteArray := (words s.data.toList).map str
theorem pieces_eq (s : ByteArray) : splitB (str [32]) 0 (countB s (str [32])) s = pieces s := by
  unfold pieces
  rw [← split_words]
  have := splitB_data (str [32]) 0 (countB s (str [32])) s
  unfold split
  rw [show count s.data.toList [32] = countB s (str [32]) from rfl, show ([32] : List UInt8) = (str [32]).data.toList from rfl, ← this, List.map_map]
  conv => lhs; rw [← List.map_id (splitB (str [32]) 0 (countB s (str [32])) s)]
  refine List.map_congr_left fun x _ => ?_
  exact (str_toList x).symm
theorem pieces_len (s : ByteArray) : countB s (str [32]) + 1 = (pieces s).length := by
  rw [← pieces_eq, splitB_all (str [32]) (by decide) 0 _ s rfl]
theorem pieces_of {m : M} {s : ByteArray} (h : textM m = (s, 0)) : pieces s = m.1 :: m.2.map (fun n => str (decDigits n.toNat)) := by
  unfold pieces
  rw [(words_of h).2.2.1]
  simp [str_toList]
theorem pieces_cons (s : ByteArray) : ∃ r t, pieces s = r :: t := by
  unfold pieces
  obtain ⟨a, t, e⟩ : ∃ a t, words s.data.toList = a :: t := by
    cases h : words s.data.toList with
    | nil => exact absurd h (words_ne _)
    | cons a t => exact ⟨a, t, rfl⟩
  rw [e]
  exact ⟨_, _, rfl⟩
theorem join_cons (a : List UInt8) (t : List (List UInt8)) : join (a :: t) = a ++ t.flatMap fun x => 32 :: x := by
  induction t generalizing a with
  | nil => simp [join]
  | cons b t ih => simp [join, ih]
/-- What the words are read as. -/
def wv (x : ByteArray) : Int := match atoiAll x.data.toList with
  | .ok v => v
  | _ => 0
theorem wv_ok {x : ByteArray} {v : Int} (h : atoiAll x.data.toList = .ok v) : wv x = v := by simp [wv, h]
theorem wv_dd {n : Int} (h : okId n = true) : atoiAll (str (decDigits n.toNat)).data.toList = .ok n := by
  have k := okId_pos h
  have := atoi_dd (n := n.toNat) (by omega)
  rw [show ((n.toNat : Nat) : Int) = n by omega] at this
  simpa using this

/-- What a text is parsed as, if it is: of words that all are numbers. -/
theorem parse_yes {m : M} {s r : ByteArray} {t : List ByteArray} (h : textM m = (s, 0)) (hp : pieces s = r :: t) : (∀ x ∈ t, ∃ v, atoiAll x.data.toList = .ok v) ∧ (r, t.map wv) = m := by
  rw [pieces_of h] at hp
  obtain ⟨e1, e2⟩ := List.cons.inj hp
  have o := (words_of h).2.1
  rw [List.all_eq_true] at o
  constructor
  · intro x hx
    rw [← e2] at hx
    obtain ⟨n, hn, rfl⟩ := List.mem_map.1 hx
    exact ⟨n, wv_dd (o n hn)⟩
  · rw [← e1, ← e2, List.map_map]
    refine Prod.ext rfl ?_
    show List.map _ m.2 = m.2
    conv => rhs; rw [← List.map_id m.2]
    refine List.map_congr_left fun n hn => ?_
    exact wv_ok (wv_dd (o n hn))
/-- What the document's numbers are. -/
theorem rparse_yes {m : M} {s r : ByteArray} {t : List ByteArray} (h : textM m = (s, 0)) (hp : pieces s = r :: t) : (∀ x ∈ t, 1 ≤ number x.data.toList) ∧ (r, t.map fun x => number x.data.toList) = m ∧ rightName r = true := by
  have hr := (words_of h).1
  rw [pieces_of h] at hp
  obtain ⟨e1, e2⟩ := List.cons.inj hp
  have o := (words_of h).2.1
  rw [List.all_eq_true] at o
  have key : ∀ n ∈ m.2, number (str (decDigits n.toNat)).data.toList = n := fun n hn => by
    have k := okId_pos (o n hn)
    have := number_dd (n := n.toNat) (by omega)
    rw [show ((n.toNat : Nat) : Int) = n by omega] at this
    simpa using this
  refine ⟨?_, ?_, by rw [← e1]; exact hr⟩
  · intro x hx
    rw [← e2] at hx
    obtain ⟨n, hn, rfl⟩ := List.mem_map.1 hx
    rw [key n hn]
    exact (okId_pos (o n hn)).1
  · rw [← e1, ← e2, List.map_map]
    refine Prod.ext rfl ?_
    show List.map _ m.2 = m.2
    conv => rhs; rw [← List.map_id m.2]
    exact List.map_congr_left fun n hn => key n hn
theorem rparse_of {s r : ByteArray} {t : List ByteArray} (hp : pieces s = r :: t) (ht : ∀ x ∈ t, 1 ≤ number x.data.toList) (hr : rightName r = true) : textM (r, t.map fun x => number x.data.toList) = (s, 0) := by
  have ho : (t.map fun x => number x.data.toList).all okId = true := by
    rw [List.all_eq_true]
    intro n hn
    obtain ⟨x, hx, rfl⟩ := List.mem_map.1 hn
    have h1 := ht x hx
    have h2 := (number_ge x.data.toList).2
    unfold okId
    simp
    omega
  rw [text_of hr ho]
  have e : textB (r, t.map fun x => number x.data.toList) = s := by
    unfold textB
    have hj := join_words s.data.toList
    obtain ⟨a, u, hw⟩ : ∃ a u, words s.data.toList = a :: u := by
      cases h : words s.data.toList with
      | nil => exact absurd h (words_ne _)
      | cons a t => exact ⟨a, t, rfl⟩
    have hp2 := hp
    unfold pieces at hp2
    rw [hw, List.map_cons] at hp2
    obtain ⟨e1, e2⟩ := List.cons.inj hp2
    rw [hw, join_cons] at hj
    rw [← str_toList s, ← hj]
    subst e1 e2
    show str ((str a).data.toList ++ tailT ((u.map str).map fun x => number x.data.toList)) = _
    congr 2
    unfold tailT
    rw [List.map_map, List.flatMap_map]
    have hx : ∀ x ∈ u, decDigits ((number x).toNat) = x := fun x hx => by
      have h1 := ht (str x) (List.mem_map_of_mem hx)
      simp only at h1
      exact (number_some (l := x) (n := (number x).toNat) (by omega)).1.symm
    clear hj hw hp2 hp ht ho
    induction u with
    | nil => rfl
    | cons x u ih =>
      rw [List.flatMap_cons, List.flatMap_cons, ih (fun y hy => hx y (by simp [hy]))]
      congr 1
      simp [hx x (by simp)]
  rw [e]
end Go.Proofs.YtmhpogajklihdaaDoor.C
