/- What the document's small functions answer, in plain words. The document's add, of names that are only read. -/
import Derived.Test.YtkbkkceeolclmaaGreatDoorQ33
import Derived.Test.YtkbkkceeolclmaaGreatDoorQ13
set_option linter.unusedVariables false
set_option linter.unusedSimpArgs false
namespace Go.Proofs.YtkbkkceeolclmaaGreatDoor.X
open Go.RowKit Go.TX Go.Lib Go.Proofs.YtkbkkceeolclmaaGreatDoorW.PrintWords Go.Proofs.YtkbkkceeolclmaaGreatDoor.PD
theorem bt_nat (s : ByteArray) (i : Nat) (h : i < s.data.toList.length) : bt s (i : Int) = (s.data.toList[i].toNat : Int) := by
  unfold bt
  rw [dif_pos (by simpa using h)]
  rfl
theorem extract_str (s : ByteArray) (a b : Nat) : s.extract a b = str ((s.data.toList.drop a).take (b - a)) := by
  apply ByteArray.ext
  apply Array.ext'
  simp
theorem words_loop (s : ByteArray) (hs : s.size ≤ 1000) : ∀ (d x5 x4 : Nat) (acc : List ByteArray) (k : Nat), s.size - x5 = d → x5 ≤ s.size → x4 ≤ x5 → acc.length ≤ x5 → (∀ j, x4 ≤ j → j < x5 → s.data.toList[j]? ≠ some 32) → d + 2 ≤ k →
    retiaryref02_Words.l0 k s acc (x4 : Int) (x5 : Int) = some (acc ++ (words (s.data.toList.drop x4)).map str)
  | 0, x5, x4, acc, k, hd, h5, h45, hacc, hno, hk => by
    obtain ⟨k, rfl⟩ : ∃ m, k = m + 2 := ⟨k - 2, by omega⟩
    have e5 : x5 = s.size := by omega
    have hsz : s.data.toList.length = s.size := rfl
    have hw : wrap64 ((x5 : Int) + 1) = ((x5 + 1 : Nat) : Int) := by unfold wrap64; omega
    have h32 : (32 : UInt8) ∉ s.data.toList.drop x4 := fun hm => by
      obtain ⟨j, hj⟩ := List.mem_iff_getElem?.1 hm
      rw [List.getElem?_drop] at hj
      have := (List.getElem?_eq_some_iff.1 hj).1
      exact hno (x4 + j) (by omega) (by omega) hj
    simp only [retiaryref02_Words.l0]
    rw [if_pos (by omega), if_pos (by omega), if_pos (by omega), if_pos (by omega), if_pos (by omega), hw, if_neg (by omega)]
    simp only [Int.toNat_natCast]
    rw [words_one h32, extract_str, List.take_of_length_le (by rw [List.length_drop]; omega)]
    rfl
  | d + 1, x5, x4, acc, k, hd, h5, h45, hacc, hno, hk => by
    obtain ⟨k, rfl⟩ : ∃ m, k = m + 1 := ⟨k - 1, by omega⟩
    have hsz : s.data.toList.length = s.size := rfl
    have hlt : x5 < s.data.toList.length := by omega
    have hw : wrap64 ((x5 : Int) + 1) = ((x5 + 1 : Nat) : Int) := by unfold wrap64; omega
    have hb := bt_nat s x5 hlt
    simp only [retiaryref02_Words.l0]
    rw [if_pos (by omega), if_neg (by omega), if_pos (by omega), if_pos (by omega), hb, hw]
    by_cases h : s.data.toList[x5] = 32
    · rw [if_pos (by rw [h]; rfl), if_pos (by omega), if_pos (by omega), if_pos (by omega)]
      rw [words_loop s hs d (x5 + 1) (x5 + 1) _ k (by omega) (by omega) (by omega) (by simp; omega) (fun j h1 h2 => by omega) (by omega)]
      simp only [Int.toNat_natCast]
      have hsplit : s.data.toList.drop x4 = (s.data.toList.drop x4).take (x5 - x4) ++ 32 :: s.data.toList.drop (x5 + 1) := by
        conv => lhs; rw [← List.take_append_drop (x5 - x4) (s.data.toList.drop x4)]
        rw [List.drop_drop, show x4 + (x5 - x4) = x5 by omega, List.drop_eq_getElem_cons hlt, h]
      have h32 : (32 : UInt8) ∉ (s.data.toList.drop x4).take (x5 - x4) := fun hm => by
        obtain ⟨j, hj⟩ := List.mem_iff_getElem?.1 hm
        rw [List.getElem?_take] at hj
        split at hj
        · rename_i hjl
          rw [List.getElem?_drop] at hj
          exact hno (x4 + j) (by omega) (by omega) hj
        · cases hj
      rw [extract_str]
      conv => rhs; rw [hsplit, words_app h32]
      simp
    · rw [if_neg (fun e => h (by apply UInt8.toNat_inj.1; rw [show (32 : UInt8).toNat = 32 from rfl]; omega))]
      refine words_loop s hs d (x5 + 1) x4 acc k (by omega) (by omega) (by omega) (by omega) (fun j h1 h2 => ?_) (by omega)
      by_cases e : j = x5
      · subst e
        rw [List.getElem?_eq_getElem hlt]
        exact fun e => h (Option.some.inj e)
      · exact hno j h1 (by omega)
theorem refWords (s : ByteArray) (hs : s.size ≤ 1000) : retiaryref02_Words.f (s.size + 2) s = some (pieces s) := by
  have := words_loop s hs s.size 0 0 [] (s.size + 2) (by omega) (by omega) (by omega) (by simp) (fun j h1 h2 => by omega) (by omega)
  unfold retiaryref02_Words.f pieces
  simpa using this
def WordsPost (s : ByteArray) (w : World) (e : Ending) (w' : World) : Prop :=
  ∃ v, e = .returned v ∧ Kd.R Kd.string 9 w' w.heap.size (fun _ => True) v (pieces s) ∧ Below w.heap.size w w'
theorem refWords_any (s : ByteArray) (hs : s.size ≤ 1000) (w : World) : Calls Tryz.prog 40 #[.string s] w (WordsPost s w) :=
  retiaryref02_Words.calls _ s _ w (refWords s hs)
theorem idx_first : ∀ (ns : List (List UInt8)) (i : Nat) (s : List UInt8), ns[i]? = some s → (∀ j, j < i → ns[j]? ≠ some s) → ns.idxOf s = i
  | [], i, s, h, _ => by simp at h
  | x :: ns, 0, s, h, _ => by
    simp at h
    subst h
    simp
  | x :: ns, i + 1, s, h, hno => by
    have hx : x ≠ s := fun e => hno 0 (by omega) (by simp [e])
    rw [List.idxOf_cons]
    have : (x == s) = false := by simpa using hx
    rw [this]
    simp only [cond_false]
    rw [idx_first ns i s (by simpa using h) (fun j hj => by simpa using hno (j + 1) (by omega))]
theorem find_loop (ns : List (List UInt8)) (hl : ns.length ≤ 1000000) (s : List UInt8) : ∀ (d i k : Nat), ns.length - i = d → i ≤ ns.length → (∀ j, j < i → ns[j]? ≠ some s) → d + 1 ≤ k →
    retiaryref01_Find.l0 k (str s) (ns.map str) (ns.length : Int) (i : Int) = some (findN ns s : Int)
  | 0, i, k, hd, hi, hno, hk => by
    obtain ⟨k, rfl⟩ : ∃ m, k = m + 1 := ⟨k - 1, by omega⟩
    simp only [retiaryref01_Find.l0]
    have hm : s ∉ ns := fun hm => by
      obtain ⟨j, hj⟩ := List.mem_iff_getElem?.1 hm
      have := (List.getElem?_eq_some_iff.1 hj).1
      exact hno j (by omega) hj
    rw [if_neg (by omega), findN, if_neg hm]
    rfl
  | d + 1, i, k, hd, hi, hno, hk => by
    obtain ⟨k, rfl⟩ : ∃ m, k = m + 1 := ⟨k - 1, by omega⟩
    have hlt : i < ns.length := by omega
    have hw : wrap64 ((i : Int) + 1) = ((i + 1 : Nat) : Int) := by unfold wrap64; omega
    have hr : rdOf ByteArray.empty (ns.map str) (i : Int) = str ns[i] := by simp [rdOf, hlt]
    simp only [retiaryref01_Find.l0]
    rw [if_pos (by omega), if_pos (by omega), if_pos (by rw [List.length_map]; omega), hr, hw, ByteArray.toList_eq, ByteArray.toList_eq]
    by_cases h : ns[i] = s
    · have e : ns[i]? = some s := by rw [List.getElem?_eq_getElem hlt, h]
      have hm : s ∈ ns := List.mem_of_getElem? e
      rw [if_pos (by simpa using h), findN, if_pos hm, idx_first ns i s e hno]
    · rw [if_neg (by simpa using h)]
      exact find_loop ns hl s d (i + 1) k (by omega) (by omega) (fun j hj => by
        by_cases e : j = i
        · subst e
          rw [List.getElem?_eq_getElem hlt]
          exact fun e => h (Option.some.inj e)
        · exact hno j (by omega)) (by omega)
theorem refFind (ns : List (List UInt8)) (hl : ns.length ≤ 1000000) (s : List UInt8) (k : Nat) (hk : ns.length + 1 ≤ k) : retiaryref01_Find.f k (ns.map str) (str s) = some (findN ns s : Int) := by
  unfold retiaryref01_Find.f
  rw [List.length_map]
  exact find_loop ns hl s ns.length 0 k (by omega) (by omega) (fun j h => by omega) hk
/-- A row of names of the document's. -/
def DN (n : Nat) (P : Nat → Prop) (w : World) (v : Value) (ns : List (List UInt8)) : Prop := Kd.R Kd.string 9 w n P v (ns.map str)
theorem DN.below {n : Nat} {P : Nat → Prop} {w W : World} {v : Value} {ns : List (List UInt8)} (h : DN n P w v ns) (hb : Below w.heap.size w W) : DN n P W v ns := Kd.R_below h hb
theorem DN.mono {n : Nat} {P Q : Nat → Prop} {w : World} {v : Value} {ns : List (List UInt8)} (h : DN n P w v ns) (hp : ∀ b, P b → Q b) : DN n Q w v ns := Kd.R_mono h hp
theorem DN.step {n : Nat} {P : Nat → Prop} {w W : World} {v : Value} {ns : List (List UInt8)} (h : DN n P w v ns) (hb : ∀ b, P b → b < w.heap.size → W.heap[b]? = w.heap[b]?) : DN n P W v ns := Kd.R_step h hb
theorem DN.reads {n : Nat} {P : Nat → Prop} {w : World} {v : Value} {ns : List (List UInt8)} (h : DN n P w v ns) : ∃ A c, v = .slice A ns.length c ∧ ns.length ≤ c ∧ Kd.C Kd.string w A ns.length (ns.map str) := by
  obtain ⟨A, c, h1, h2, h3⟩ := Kd.R_reads h
  rw [List.length_map] at h1 h2 h3
  exact ⟨A, c, h1, h2, h3⟩
theorem right_loop (s : ByteArray) (hs : s.size ≤ 100000) : ∀ (d i k : Nat), s.size - i = d → i ≤ s.size → d + 1 ≤ k → (∀ j (_ : j < s.size), j < i → okN s[j].toNat = true) →
    retiaryref01_Right.l0 k s (i : Int) = some (s.data.toList.all fun b => okN b.toNat)
  | 0, i, k, hd, hi, hk, hall => by
    obtain ⟨k, rfl⟩ : ∃ m, k = m + 1 := ⟨k - 1, by omega⟩
    simp only [retiaryref01_Right.l0]
    rw [if_neg (by omega), all_at (fun j hj => hall j hj (by omega))]
  | d + 1, i, k, hd, hi, hk, hall => by
    obtain ⟨k, rfl⟩ : ∃ m, k = m + 1 := ⟨k - 1, by omega⟩
    have hsz : s.data.toList.length = s.size := rfl
    have hlt : i < s.data.toList.length := by omega
    have hw : wrap64 ((i : Int) + 1) = ((i + 1 : Nat) : Int) := by unfold wrap64; omega
    have hb := bt_nat s i hlt
    have ih := fun h => right_loop s hs d (i + 1) k (by omega) (by omega) (by omega) h
    simp only [retiaryref01_Right.l0]
    rw [if_pos (by omega), if_pos (by omega), hb, hw]
    by_cases hok : okN s.data.toList[i].toNat = true
    · have ih := ih (fun j hj hl => by
        by_cases e : j = i
        · subst e; exact hok
        · exact hall j hj (by omega))
      rw [ih]
      unfold okN at hok
      simp only [Bool.or_eq_true, Bool.and_eq_true, decide_eq_true_eq] at hok
      generalize s.data.toList[i].toNat = n at hok
      repeat' split
      all_goals first | rfl | (exfalso; omega)
    · have hf : (s.data.toList.all fun b => okN b.toNat) = false := by
        rw [List.all_eq_false]
        exact ⟨s.data.toList[i], List.getElem_mem hlt, hok⟩
      rw [hf]
      unfold okN at hok
      simp only [Bool.or_eq_true, Bool.and_eq_true, decide_eq_true_eq] at hok
      generalize retiaryref01_Right.l0 k s _ = x
      generalize s.data.toList[i].toNat = n at hok
      repeat' split
      all_goals first | rfl | (exfalso; omega)
theorem refRight (s : List UInt8) (hs : s.length ≤ 100000) (k : Nat) (hk : s.length + 2 ≤ k) : retiaryref01_Right.f k (str s) = some (rightName (str s)) := by
  obtain ⟨k, rfl⟩ : ∃ m, k = m + 1 := ⟨k - 1, by omega⟩
  have hsz := str_size s
  have hl := right_loop (str s) (by omega) (str s).size 0 k (by omega) (by omega) (by omega) (fun j _ h => by omega)
  rw [show ((0 : Nat) : Int) = 0 from rfl] at hl
  unfold retiaryref01_Right.f rightName
  by_cases h1 : (str s).size < 1
  · rw [if_pos (by omega), decide_eq_false (show ¬ 1 ≤ (str s).size by omega)]
    simp [retiaryref01_Right.j0]
  · rw [if_neg (by omega), decide_eq_true (show 1 ≤ (str s).size by omega)]
    by_cases h2 : (str s).size > 32
    · rw [decide_eq_true (show ((str s).size : Int) > 32 by omega), decide_eq_false (show ¬ (str s).size ≤ 32 by omega)]
      simp [retiaryref01_Right.j0]
    · rw [decide_eq_false (show ¬ ((str s).size : Int) > 32 by omega), decide_eq_true (show (str s).size ≤ 32 by omega)]
      simp only [retiaryref01_Right.j0]
      rw [if_neg (by simp), hl]
      simp
theorem refIntern (ns : List (List UInt8)) (hl : ns.length ≤ 1000000) (s : List UInt8) (hs : s.length ≤ 100000) : ∃ r2 r3, retiaryref01_Intern.f (ns.length + s.length + 2) (ns.map str) (str s) = some ((internN ns s).map str, r2, r3) := by
  unfold retiaryref01_Intern.f
  rw [refRight s hs _ (by omega), refFind ns hl s _ (by omega)]
  simp only [Option.bind_some]
  by_cases hr : rightName (str s) = true
  · rw [if_pos hr]
    by_cases hm : s ∈ ns
    · have : 0 < findN ns s := by unfold findN; rw [if_pos hm]; omega
      have e : internN ns s = ns := by
        unfold internN
        split
        · exact addN_old hm
        · rfl
      rw [if_pos (by omega), e]
      exact ⟨_, _, rfl⟩
    · have h0 : findN ns s = 0 := by unfold findN; rw [if_neg hm]
      rw [h0, if_neg (by decide)]
      by_cases hf : ns.length < 4096
      · have e : internN ns s = ns ++ [s] := by unfold internN addN; rw [if_pos ⟨hr, hf⟩, if_neg hm]
        rw [e, if_neg (by simp; omega), if_pos (by simp; omega)]
        simp only [List.nil_append]
        rw [if_pos (by simp; omega)]
        exact ⟨((ns.length : Int) + 1), 0, by simp⟩
      · have e : internN ns s = ns := by unfold internN; rw [if_neg (fun h => hf h.2)]
        rw [e, if_pos (by simp; omega)]
        exact ⟨_, _, rfl⟩
  · have e : internN ns s = ns := by unfold internN; rw [if_neg (fun h => hr h.1)]
    rw [if_neg hr, e]
    exact ⟨_, _, rfl⟩
/-- The document's Intern. -/
theorem rintern_walk {n : Nat} {P : Nat → Prop} {w0 w : World} {v : Value} {ns : List (List UInt8)} (hw : n = w0.heap.size) (hB : Below w0.heap.size w0 w) (h : DN n P w v ns) (hl : ns.length ≤ 1000000) (s : List UInt8) (hs : s.length ≤ 100000) :
    Calls Tryz.prog 26 #[v, .string (str s)] w fun e W => ∃ u r2 r3, e = .returned (.tuple #[u, .int .i64 r2, .int .i64 r3]) ∧ DN n (New w P) W u (internN ns s) ∧ Below n w0 W ∧ Kept w W P := by
  subst hw
  obtain ⟨r2, r3, hf⟩ := refIntern ns hl s hs
  refine (retiaryref01_Intern.calls _ P v (ns.map str) (str s) _ r2 r3 w0 w hB h hf).mono ?_
  rintro e W ⟨u, h1, h2, h3, h4⟩
  exact ⟨u, r2, r3, h1, h2, h3, h4⟩
end Go.Proofs.YtkbkkceeolclmaaGreatDoor.X
namespace Go.Proofs.YtkbkkceeolclmaaGreatDoor.X
open Go.RowKit Go.TX Go.Lib Go.Proofs.YtkbkkceeolclmaaGreatDoorW.PrintWords Go.Proofs.YtkbkkceeolclmaaGreatDoorW.PrintLast Go.Proofs.YtkbkkceeolclmaaGreatDoorW.PrintMore Go.Proofs.YtkbkkceeolclmaaGreatDoor.PD
/-- Names in a row of some call's own. -/
def RN (w : World) (v : Value) (ns : List (List UInt8)) : Prop := ∃ P, DN 0 P w v ns
theorem RN.below {w W : World} {v : Value} {ns : List (List UInt8)} (h : RN w v ns) (hb : Below w.heap.size w W) : RN W v ns := h.imp fun _ q => q.below hb
theorem RN.of {n : Nat} {P : Nat → Prop} {w : World} {v : Value} {ns : List (List UInt8)} (h : DN n P w v ns) : RN w v ns := ⟨P, Kd.R_lower h (Nat.zero_le _)⟩
theorem RN.reads {w : World} {v : Value} {ns : List (List UInt8)} (h : RN w v ns) : ∃ A c, v = .slice A ns.length c ∧ ns.length ≤ c ∧ Kd.C Kd.string w A ns.length (ns.map str) := h.elim fun _ q => DN.reads q
/-- They stay where rows of names stay. -/
theorem RN.k9 {w W : World} {v : Value} {ns : List (List UInt8)} (h : RN w v ns) (hk : ∀ (b : Nat) (cs : Array Value), w.heap[b]? = some (.cells cs 9 (0, 0)) → W.heap[b]? = w.heap[b]?) : RN W v ns := by
  obtain ⟨P, h⟩ := h
  have h := Kd.R_bound h
  refine ⟨_, Kd.R_step h fun k hk2 _ => ?_⟩
  obtain ⟨_, _, _, q, hq, cs, hc⟩ := hk2
  have e : q = 9 := by simpa [Kd.string, Kd.scalar] using hq
  subst e
  exact hk k cs hc
theorem RN.set {w : World} {v : Value} {ns : List (List UInt8)} (h : RN w v ns) {g : Nat} {cs : Array Value} {ty : TypeId} (hg : w.heap[g]? = some (.cells cs ty (0, 0))) (ht : ty ≠ 9) (q : Nat) (u : Value) : RN (w.setCell ⟨g, q, none⟩ u) v ns :=
  h.k9 fun b cs2 e => Below.heap_setCell w ⟨g, q, none⟩ u b (by
    show b ≠ g
    intro e2
    subst e2
    rw [hg] at e
    simp only [Option.some.injEq, Obj.cells.injEq] at e
    exact ht e.2.1)
set_option maxRecDepth 100000 in
set_option maxHeartbeats 4000000 in
theorem radd2 {w : World} {v : Value} {ns : List (List UInt8)} (h : RN w v ns) (hl : ns.length ≤ 1000000) (s : List UInt8) :
    Calls Tryz.prog 45 #[v, .string (str s)] w fun e W => ∃ u, e = .returned (.tuple #[u, .int .i64 (findN (addN ns s) s : Nat)]) ∧ RN W u (addN ns s) ∧ Below w.heap.size w W := by
  obtain ⟨A, c, rfl, hc, hC⟩ := h.reads
  replace h := Aside0.mk h
  have hf := Aside0.mk (retiaryref01_Find.calls (ns.length + 1) A c (ns.map str) (str s) _ w (by rw [List.length_map]; exact hC) (by rw [List.length_map]; exact hc) (refFind ns hl s _ (Nat.le_refl _)))
  rw [List.length_map] at hf
  replace hC := Aside0.mk hC
  by_cases hm : s ∈ ns
  · have hea : addN ns s = ns := addN_old hm
    have hpos : decide ((0 : Int) < (findN ns s : Nat)) = true := by
      have : 0 < findN ns s := by unfold findN; rw [if_pos hm]; omega
      simp; omega
    rw [hea]
    generalize ((findN ns s : Nat) : Int) = fv at hf hpos ⊢
    clear hm
    go_enter Tryz.func45, Tryz.ntmps45
    go_wp2_with (go_at_call 48; refine hf.out.mono ?_; rintro e w1 ⟨rfl, ⟨nd, rfl⟩⟩)
    go_ret2
    exact ⟨_, rfl, h.out.below (pw_below_drewN (Below.refl _ _) _), pw_below_drewN (Below.refl _ _) _⟩
  · have hea : addN ns s = ns ++ [s] := by unfold addN; rw [if_neg hm]
    have h0 : findN ns s = 0 := by unfold findN; rw [if_neg hm]
    have hlen : (ns ++ [s]).length = ns.length + 1 := by simp
    have hfn : findN (ns ++ [s]) s = ns.length + 1 := findN_snoc hm
    rw [h0] at hf
    rw [hea, hfn, show ((ns.length + 1 : Nat) : Int) = (ns.length : Int) + 1 by omega]
    clear hm hea h0 hfn
    go_enter Tryz.func45, Tryz.ntmps45
    go_wp2_with (first
      | (go_at_call 48; refine hf.out.mono ?_; rintro e w1 ⟨rfl, ⟨nd, rfl⟩⟩)
      | ((with_reducible refine gate_builtin (b := .append) (xs := #[.tmp 15, .tmp 16]) rfl ?_); at_builtin; refine Kd.R_append_rows Kd.string (w0 := w) w.heap.size rfl (.tmp 15) (.tmp 16) 22 9 (.string ⟨#[]⟩) 16 rfl Tryz.underlying22 info9 rfl (by decide) (by omega) (.slice none 0 0) ([] : List ByteArray) (ns.map str) _ _ _ (fun k_ => w.heap.size ≤ k_) (fun _ => False) rfl rfl ?aO ?aR (fun _ _ h => h) (fun _ h => h.elim) ?aF ?aB ?aS ?aL ?_; (case aR => exact Kd.C_drewN hC.out _); (case aF => exact fun k_ hk => hk); (case aO => exact Kd.R_nil _ _ _ _ _); (case aB => exact pw_below_drewN (Below.refl _ _) _); (case aS => exact Nat.le_refl _); (case aL => simp only [List.length_nil]; omega); intro v2 w2 ho2 hb2 hg2 hat2; replace ho2 := Aside0.mk ho2; replace hb2 := Aside0.mk hb2; clear hg2 hat2)
      | ((with_reducible refine gate_builtin (b := .append) (xs := #[.tmp 18, .tmp 20]) rfl ?_); at_builtin; refine Kd.R_append Kd.string (w0 := w) w.heap.size rfl (.tmp 18) (.tmp 20) 22 9 (.string ⟨#[]⟩) 16 rfl Tryz.underlying22 info9 rfl (by decide) (by omega) v2 ([] ++ ns.map str) (str s) [.string (str s)] (fun k_ => w.heap.size ≤ k_) (fun _ => False) rfl rfl ?aP (fun _ hk => hk.elim) ?aF ?aO ?aB ?aS ?aL ?_; (case aP => exact rfl); (case aF => exact fun k_ hk => Nat.le_trans hb2.out.size hk); (case aO => exact ho2.out); (case aB => exact hb2.out); (case aS => exact hb2.out.size); (case aL => simp only [List.nil_append, List.length_map]; omega); intro v3 w3 ho3 hb3 hg3 hat3; rw [show [] ++ ns.map str ++ [str s] = (ns ++ [s]).map str by simp] at ho3; have hR3 := Aside0.mk (RN.of (ns := ns ++ [s]) ho3); obtain ⟨A3, c3, rfl, hc3, -⟩ := DN.reads (ns := ns ++ [s]) ho3; replace hb3 := Aside0.mk hb3; clear ho3 hg3 hat3; rw [hlen] at hc3 ⊢))
    go_ret2
    exact ⟨.slice A3 (ns.length + 1) c3, rfl, by have := hR3.out; rwa [hlen] at this, hb3.out⟩
end Go.Proofs.YtkbkkceeolclmaaGreatDoor.X
