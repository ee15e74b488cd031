/- What the document's small functions answer, in plain words. The document's add, of names that are only read. The law's table of names, and the document's list; whether they are alike. -/
import Derived.Test.YtkbkkceeolclmaaGreatDoorQ37
import Derived.Test.YtkbkkceeolclmaaGreatDoorQ15
set_option linter.unusedVariables false
set_option linter.unusedSimpArgs false
namespace Go.Proofs.YtkbkkceeolclmaaGreatDoor.X
open Go.RowKit Go.TX Go.Lib Go.Proofs.YtkbkkceeolclmaaGreatDoorW.PrintWords Go.Proofs.YtkbkkceeolclmaaGreatDoor.PD
theorem bt_nat (s : ByteArray) (i : Nat) (h : i < s.data.toList.length) : bt s (i : Int) = (s.data.toList[i].toNat : Int) := by
  unfold bt
  rw [dif_pos (by simpa using h)]
  rfl
theorem extract_str (s : ByteArray) (a b : Nat) : s.extract a b = str ((s.data.toList.drop a).take (b - a)) := by
  apply ByteArray.ext
  apply Array.ext'
  simp
theorem words_loop (s : ByteArray) (hs : s.size ≤ 1000) : ∀ (d x5 x4 : Nat) (acc : List ByteArray) (k : Nat), s.size - x5 = d → x5 ≤ s.size → x4 ≤ x5 → acc.length ≤ x5 → (∀ j, x4 ≤ j → j < x5 → s.data.toList[j]? ≠ some 32) → d + 2 ≤ k →
    retiaryref02_Words.l0 k s acc (x4 : Int) (x5 : Int) = some (acc ++ (words (s.data.toList.drop x4)).map str)
  | 0, x5, x4, acc, k, hd, h5, h45, hacc, hno, hk => by
    obtain ⟨k, rfl⟩ : ∃ m, k = m + 2 := ⟨k - 2, by omega⟩
    have e5 : x5 = s.size := by omega
    have hsz : s.data.toList.length = s.size := rfl
    have hw : wrap64 ((x5 : Int) + 1) = ((x5 + 1 : Nat) : Int) := by unfold wrap64; omega
    have h32 : (32 : UInt8) ∉ s.data.toList.drop x4 := fun hm => by
      obtain ⟨j, hj⟩ := List.mem_iff_getElem?.1 hm
      rw [List.getElem?_drop] at hj
      have := (List.getElem?_eq_some_iff.1 hj).1
      exact hno (x4 + j) (by omega) (by omega) hj
    simp only [retiaryref02_Words.l0]
    rw [if_pos (by omega), if_pos (by omega), if_pos (by omega), if_pos (by omega), if_pos (by omega), hw, if_neg (by omega)]
    simp only [Int.toNat_natCast]
    rw [words_one h32, extract_str, List.take_of_length_le (by rw [List.length_drop]; omega)]
    rfl
  | d + 1, x5, x4, acc, k, hd, h5, h45, hacc, hno, hk => by
    obtain ⟨k, rfl⟩ : ∃ m, k = m + 1 := ⟨k - 1, by omega⟩
    have hsz : s.data.toList.length = s.size := rfl
    have hlt : x5 < s.data.toList.length := by omega
    have hw : wrap64 ((x5 : Int) + 1) = ((x5 + 1 : Nat) : Int) := by unfold wrap64; omega
    have hb := bt_nat s x5 hlt
    simp only [retiaryref02_Words.l0]
    rw [if_pos (by omega), if_neg (by omega), if_pos (by omega), if_pos (by omega), hb, hw]
    by_cases h : s.data.toList[x5] = 32
    · rw [if_pos (by rw [h]; rfl), if_pos (by omega), if_pos (by omega), if_pos (by omega)]
      rw [words_loop s hs d (x5 + 1) (x5 + 1) _ k (by omega) (by omega) (by omega) (by simp; omega) (fun j h1 h2 => by omega) (by omega)]
      simp only [Int.toNat_natCast]
      have hsplit : s.data.toList.drop x4 = (s.data.toList.drop x4).take (x5 - x4) ++ 32 :: s.data.toList.drop (x5 + 1) := by
        conv => lhs; rw [← List.take_append_drop (x5 - x4) (s.data.toList.drop x4)]
        rw [List.drop_drop, show x4 + (x5 - x4) = x5 by omega, List.drop_eq_getElem_cons hlt, h]
      have h32 : (32 : UInt8) ∉ (s.data.toList.drop x4).take (x5 - x4) := fun hm => by
        obtain ⟨j, hj⟩ := List.mem_iff_getElem?.1 hm
        rw [List.getElem?_take] at hj
        split at hj
        · rename_i hjl
          rw [List.getElem?_drop] at hj
          exact hno (x4 + j) (by omega) (by omega) hj
        · cases hj
      rw [extract_str]
      conv => rhs; rw [hsplit, words_app h32]
      simp
    · rw [if_neg (fun e => h (by apply UInt8.toNat_inj.1; rw [show (32 : UInt8).toNat = 32 from rfl]; omega))]
      refine words_loop s hs d (x5 + 1) x4 acc k (by omega) (by omega) (by omega) (by omega) (fun j h1 h2 => ?_) (by omega)
      by_cases e : j = x5
      · subst e
        rw [List.getElem?_eq_getElem hlt]
        exact fun e => h (Option.some.inj e)
      · exact hno j h1 (by omega)
theorem refWords (s : ByteArray) (hs : s.size ≤ 1000) : retiaryref02_Words.f (s.size + 2) s = some (pieces s) := by
  have := words_loop s hs s.size 0 0 [] (s.size + 2) (by omega) (by omega) (by omega) (by simp) (fun j h1 h2 => by omega) (by omega)
  unfold retiaryref02_Words.f pieces
  simpa using this
theorem num_step (acc b : Nat) (ha : acc < 1000000000) (h1 : 48 ≤ b) (h2 : b ≤ 57) : wrap64 (wrap64 ((acc : Int) * 10) + ((b : Int) - 48) % 256) = ((acc * 10 + (b - 48) : Nat) : Int) := by
  have e1 : ((b : Int) - 48) % 256 = ((b - 48 : Nat) : Int) := by omega
  have e2 : wrap64 ((acc : Int) * 10) = ((acc * 10 : Nat) : Int) := by unfold wrap64; omega
  rw [e1, e2]
  unfold wrap64
  omega
theorem number_loop (s : ByteArray) (hs : s.size ≤ 9) (d : Nat) : ∀ (i : Nat) (acc : Nat) (k : Nat), s.size - i = d → i ≤ s.size → acc < 10 ^ i → d + 1 ≤ k →
    retiaryref02_Number.l0 k s (acc : Int) (i : Int) = some (match decFrom acc (s.data.toList.drop i) with | some m => (m : Int) | none => -1) := by
  have hsz : s.data.toList.length = s.size := rfl
  induction d with
  | zero =>
    intro i acc k hd hi hacc hk
    obtain ⟨k, rfl⟩ : ∃ m, k = m + 1 := ⟨k - 1, by omega⟩
    simp only [retiaryref02_Number.l0]
    rw [if_neg (by omega), List.drop_of_length_le (by omega)]
    rfl
  | succ d ih =>
    intro i acc k hd hi hacc hk
    obtain ⟨k, rfl⟩ : ∃ m, k = m + 1 := ⟨k - 1, by omega⟩
    have hlt : i < s.data.toList.length := by omega
    have hb := bt_nat s i hlt
    have ha : acc < 1000000000 := by
      have hp : 10 ^ i ≤ 10 ^ 9 := Nat.pow_le_pow_right (by omega) (by omega)
      exact Nat.lt_of_lt_of_le hacc hp
    have hw : wrap64 ((i : Int) + 1) = ((i + 1 : Nat) : Int) := by unfold wrap64; omega
    have hacc2 : ∀ x, x < 10 → acc * 10 + x < 10 ^ (i + 1) := fun x hx => by rw [Nat.pow_succ]; omega
    clear hacc
    simp only [retiaryref02_Number.l0]
    rw [if_pos (by omega), if_pos (by omega), hb, List.drop_eq_getElem_cons hlt, hw]
    generalize s.data.toList[i] = b
    simp only [decFrom, digitVal]
    by_cases h1 : 48 ≤ b.toNat
    · by_cases h2 : b.toNat ≤ 57
      · rw [if_neg (by omega), if_neg (by omega), if_pos ⟨h1, h2⟩, num_step acc b.toNat ha h1 h2]
        exact ih (i + 1) _ k (by omega) (by omega) (hacc2 _ (by omega)) (by omega)
      · rw [if_neg (by omega), if_pos (by omega), if_neg (by omega)]
    · rw [if_pos (by omega), if_neg (by omega)]
theorem refNumber (s : ByteArray) : retiaryref02_Number.f 20 s = some (number s.data.toList) := by
  have hsz : s.data.toList.length = s.size := rfl
  unfold retiaryref02_Number.f number
  have hj : ∀ b, retiaryref02_Number.j0 20 s b = if b = true then some (-1) else retiaryref02_Number.l0 19 s 0 0 := fun b => by simp only [retiaryref02_Number.j0]
  rw [ByteArray.toList_eq]
  by_cases h0 : s.data.toList = []
  · rw [if_pos h0, if_pos (.inl h0), hj, if_pos rfl]
  · rw [if_neg h0]
    by_cases h9 : 9 < s.size
    · rw [if_pos (by omega), if_pos (.inr (.inl (by omega))), hj, if_pos rfl]
    · rw [if_neg (by omega)]
      have hl := number_loop s (by omega) s.size 0 0 19 (by omega) (by omega) (by decide) (by omega)
      rw [show ((0 : Nat) : Int) = 0 from rfl, List.drop_zero] at hl
      by_cases h1 : 1 < s.size
      · rw [if_pos (by omega), if_pos (by omega), hj]
        have hb := bt_nat s 0 (by omega)
        rw [show ((0 : Nat) : Int) = 0 from rfl] at hb
        have hh : s.data.toList.head? = some s.data.toList[0] := by
          rw [List.head?_eq_getElem?, List.getElem?_eq_getElem (by omega)]
        rw [hb, hh]
        by_cases h48 : s.data.toList[0] = 48
        · rw [if_pos (by rw [h48]; rfl), if_pos (.inr (.inr ⟨by omega, by rw [h48]⟩))]
        · have hne : ¬ ((s.data.toList[0].toNat : Int) == 48) = true := fun e => h48 (by
            have := beq_iff_eq.1 e
            apply UInt8.toNat_inj.1
            rw [show (48 : UInt8).toNat = 48 from rfl]
            omega)
          rw [if_neg hne, if_neg, hl]
          · rfl
          · rintro (h | h | h)
            · exact h0 h
            · omega
            · exact h48 (Option.some.inj h.2)
      · rw [if_neg (by omega), hj, if_neg (by simp), if_neg, hl]
        · rfl
        · rintro (h | h | h)
          · exact h0 h
          · omega
          · omega
theorem refNumber_any (s : ByteArray) (w : World) : Calls Tryz.prog 84 #[.string s] w fun e w' => e = .returned (.int .i64 (number s.data.toList)) ∧ Below w.heap.size w w' := by
  refine (retiaryref02_Number.calls 20 s _ w (refNumber s)).mono ?_
  rintro e w' ⟨rfl, h⟩
  exact ⟨rfl, h.below⟩
def WordsPost (s : ByteArray) (w : World) (e : Ending) (w' : World) : Prop :=
  ∃ v, e = .returned v ∧ Kd.R Kd.string 9 w' w.heap.size (fun _ => True) v (pieces s) ∧ Below w.heap.size w w'
theorem refWords_any (s : ByteArray) (hs : s.size ≤ 1000) (w : World) : Calls Tryz.prog 40 #[.string s] w (WordsPost s w) :=
  retiaryref02_Words.calls _ s _ w (refWords s hs)
theorem idx_first : ∀ (ns : List (List UInt8)) (i : Nat) (s : List UInt8), ns[i]? = some s → (∀ j, j < i → ns[j]? ≠ some s) → ns.idxOf s = i
  | [], i, s, h, _ => by simp at h
  | x :: ns, 0, s, h, _ => by
    simp at h
    subst h
    simp
  | x :: ns, i + 1, s, h, hno => by
    have hx : x ≠ s := fun e => hno 0 (by omega) (by simp [e])
    rw [List.idxOf_cons]
    have : (x == s) = false := by simpa using hx
    rw [this]
    simp only [cond_false]
    rw [idx_first ns i s (by simpa using h) (fun j hj => by simpa using hno (j + 1) (by omega))]
theorem find_loop (ns : List (List UInt8)) (hl : ns.length ≤ 1000000) (s : List UInt8) : ∀ (d i k : Nat), ns.length - i = d → i ≤ ns.length → (∀ j, j < i → ns[j]? ≠ some s) → d + 1 ≤ k →
    retiaryref01_Find.l0 k (str s) (ns.map str) (ns.length : Int) (i : Int) = some (findN ns s : Int)
  | 0, i, k, hd, hi, hno, hk => by
    obtain ⟨k, rfl⟩ : ∃ m, k = m + 1 := ⟨k - 1, by omega⟩
    simp only [retiaryref01_Find.l0]
    have hm : s ∉ ns := fun hm => by
      obtain ⟨j, hj⟩ := List.mem_iff_getElem?.1 hm
      have := (List.getElem?_eq_some_iff.1 hj).1
      exact hno j (by omega) hj
    rw [if_neg (by omega), findN, if_neg hm]
    rfl
  | d + 1, i, k, hd, hi, hno, hk => by
    obtain ⟨k, rfl⟩ : ∃ m, k = m + 1 := ⟨k - 1, by omega⟩
    have hlt : i < ns.length := by omega
    have hw : wrap64 ((i : Int) + 1) = ((i + 1 : Nat) : Int) := by unfold wrap64; omega
    have hr : rdOf ByteArray.empty (ns.map str) (i : Int) = str ns[i] := by simp [rdOf, hlt]
    simp only [retiaryref01_Find.l0]
    rw [if_pos (by omega), if_pos (by omega), if_pos (by rw [List.length_map]; omega), hr, hw, ByteArray.toList_eq, ByteArray.toList_eq]
    by_cases h : ns[i] = s
    · have e : ns[i]? = some s := by rw [List.getElem?_eq_getElem hlt, h]
      have hm : s ∈ ns := List.mem_of_getElem? e
      rw [if_pos (by simpa using h), findN, if_pos hm, idx_first ns i s e hno]
    · rw [if_neg (by simpa using h)]
      exact find_loop ns hl s d (i + 1) k (by omega) (by omega) (fun j hj => by
        by_cases e : j = i
        · subst e
          rw [List.getElem?_eq_getElem hlt]
          exact fun e => h (Option.some.inj e)
        · exact hno j (by omega)) (by omega)
theorem refFind (ns : List (List UInt8)) (hl : ns.length ≤ 1000000) (s : List UInt8) (k : Nat) (hk : ns.length + 1 ≤ k) : retiaryref01_Find.f k (ns.map str) (str s) = some (findN ns s : Int) := by
  unfold retiaryref01_Find.f
  rw [List.length_map]
  exact find_loop ns hl s ns.length 0 k (by omega) (by omega) (fun j h => by omega) hk
/-- A row of names of the document's. -/
def DN (n : Nat) (P : Nat → Prop) (w : World) (v : Value) (ns : List (List UInt8)) : Prop := Kd.R Kd.string 9 w n P v (ns.map str)
theorem DN.below {n : Nat} {P : Nat → Prop} {w W : World} {v : Value} {ns : List (List UInt8)} (h : DN n P w v ns) (hb : Below w.heap.size w W) : DN n P W v ns := Kd.R_below h hb
theorem DN.mono {n : Nat} {P Q : Nat → Prop} {w : World} {v : Value} {ns : List (List UInt8)} (h : DN n P w v ns) (hp : ∀ b, P b → Q b) : DN n Q w v ns := Kd.R_mono h hp
theorem DN.step {n : Nat} {P : Nat → Prop} {w W : World} {v : Value} {ns : List (List UInt8)} (h : DN n P w v ns) (hb : ∀ b, P b → b < w.heap.size → W.heap[b]? = w.heap[b]?) : DN n P W v ns := Kd.R_step h hb
theorem DN.reads {n : Nat} {P : Nat → Prop} {w : World} {v : Value} {ns : List (List UInt8)} (h : DN n P w v ns) : ∃ A c, v = .slice A ns.length c ∧ ns.length ≤ c ∧ Kd.C Kd.string w A ns.length (ns.map str) := by
  obtain ⟨A, c, h1, h2, h3⟩ := Kd.R_reads h
  rw [List.length_map] at h1 h2 h3
  exact ⟨A, c, h1, h2, h3⟩
end Go.Proofs.YtkbkkceeolclmaaGreatDoor.X
namespace Go.Proofs.YtkbkkceeolclmaaGreatDoor.X
open Go.RowKit Go.TX Go.Lib Go.Proofs.YtkbkkceeolclmaaGreatDoorW.PrintWords Go.Proofs.YtkbkkceeolclmaaGreatDoorW.PrintLast Go.Proofs.YtkbkkceeolclmaaGreatDoorW.PrintMore Go.Proofs.YtkbkkceeolclmaaGreatDoor.PD
/-- Names in a row of some call's own. -/
def RN (w : World) (v : Value) (ns : List (List UInt8)) : Prop := ∃ P, DN 0 P w v ns
theorem RN.below {w W : World} {v : Value} {ns : List (List UInt8)} (h : RN w v ns) (hb : Below w.heap.size w W) : RN W v ns := h.imp fun _ q => q.below hb
theorem RN.of {n : Nat} {P : Nat → Prop} {w : World} {v : Value} {ns : List (List UInt8)} (h : DN n P w v ns) : RN w v ns := ⟨P, Kd.R_lower h (Nat.zero_le _)⟩
theorem RN.reads {w : World} {v : Value} {ns : List (List UInt8)} (h : RN w v ns) : ∃ A c, v = .slice A ns.length c ∧ ns.length ≤ c ∧ Kd.C Kd.string w A ns.length (ns.map str) := h.elim fun _ q => DN.reads q
/-- They stay where rows of names stay. -/
theorem DN.k9 {n : Nat} {P : Nat → Prop} {w W : World} {v : Value} {ns : List (List UInt8)} (h : DN n P w v ns) (hk : ∀ (b : Nat) (cs : Array Value), w.heap[b]? = some (.cells cs 9 (0, 0)) → W.heap[b]? = w.heap[b]?) : DN n P W v ns := by
  have h := Kd.R_bound h
  refine Kd.R_mono (Kd.R_step h fun k hk2 _ => ?_) fun _ q => q.1
  obtain ⟨_, _, _, q, hq, cs, hc⟩ := hk2
  have e : q = 9 := by simpa [Kd.string, Kd.scalar] using hq
  subst e
  exact hk k cs hc
theorem RN.k9 {w W : World} {v : Value} {ns : List (List UInt8)} (h : RN w v ns) (hk : ∀ (b : Nat) (cs : Array Value), w.heap[b]? = some (.cells cs 9 (0, 0)) → W.heap[b]? = w.heap[b]?) : RN W v ns := h.imp fun _ q => q.k9 hk
theorem DN.set {n : Nat} {P : Nat → Prop} {w : World} {v : Value} {ns : List (List UInt8)} (h : DN n P w v ns) {g : Nat} {cs : Array Value} {ty : TypeId} (hg : w.heap[g]? = some (.cells cs ty (0, 0))) (ht : ty ≠ 9) (q : Nat) (u : Value) : DN n P (w.setCell ⟨g, q, none⟩ u) v ns :=
  h.k9 fun b cs2 e => Below.heap_setCell w ⟨g, q, none⟩ u b (by
    show b ≠ g
    intro e2
    subst e2
    rw [hg] at e
    simp only [Option.some.injEq, Obj.cells.injEq] at e
    exact ht e.2.1)
theorem RN.set {w : World} {v : Value} {ns : List (List UInt8)} (h : RN w v ns) {g : Nat} {cs : Array Value} {ty : TypeId} (hg : w.heap[g]? = some (.cells cs ty (0, 0))) (ht : ty ≠ 9) (q : Nat) (u : Value) : RN (w.setCell ⟨g, q, none⟩ u) v ns := h.imp fun _ k => k.set hg ht q u
set_option maxRecDepth 100000 in
set_option maxHeartbeats 4000000 in
theorem radd3 {P : Nat → Prop} {w : World} {v : Value} {ns : List (List UInt8)} (h : DN 0 P w v ns) (hl : ns.length ≤ 1000000) (s : List UInt8) :
    Calls Tryz.prog 45 #[v, .string (str s)] w fun e W => ∃ u, e = .returned (.tuple #[u, .int .i64 (findN (addN ns s) s : Nat)]) ∧ DN 0 (fun b => P b ∨ w.heap.size ≤ b) W u (addN ns s) ∧ Below w.heap.size w W := by
  obtain ⟨A, c, rfl, hc, hC⟩ := DN.reads h
  replace h := Aside0.mk h
  have hf := Aside0.mk (retiaryref01_Find.calls (ns.length + 1) A c (ns.map str) (str s) _ w (by rw [List.length_map]; exact hC) (by rw [List.length_map]; exact hc) (refFind ns hl s _ (Nat.le_refl _)))
  rw [List.length_map] at hf
  replace hC := Aside0.mk hC
  by_cases hm : s ∈ ns
  · have hea : addN ns s = ns := addN_old hm
    have hpos : decide ((0 : Int) < (findN ns s : Nat)) = true := by
      have : 0 < findN ns s := by unfold findN; rw [if_pos hm]; omega
      simp; omega
    rw [hea]
    generalize ((findN ns s : Nat) : Int) = fv at hf hpos ⊢
    clear hm
    go_enter Tryz.func45, Tryz.ntmps45
    go_wp2_with (go_at_call 48; refine hf.out.mono ?_; rintro e w1 ⟨rfl, ⟨nd, rfl⟩⟩)
    go_ret2
    exact ⟨_, rfl, (h.out.below (pw_below_drewN (Below.refl _ _) _)).mono fun _ q => .inl q, pw_below_drewN (Below.refl _ _) _⟩
  · have hea : addN ns s = ns ++ [s] := by unfold addN; rw [if_neg hm]
    have h0 : findN ns s = 0 := by unfold findN; rw [if_neg hm]
    have hlen : (ns ++ [s]).length = ns.length + 1 := by simp
    have hfn : findN (ns ++ [s]) s = ns.length + 1 := findN_snoc hm
    rw [h0] at hf
    rw [hea, hfn, show ((ns.length + 1 : Nat) : Int) = (ns.length : Int) + 1 by omega]
    clear hm hea h0 hfn
    go_enter Tryz.func45, Tryz.ntmps45
    go_wp2_with (first
      | (go_at_call 48; refine hf.out.mono ?_; rintro e w1 ⟨rfl, ⟨nd, rfl⟩⟩)
      | ((with_reducible refine gate_builtin (b := .append) (xs := #[.tmp 15, .tmp 16]) rfl ?_); at_builtin; refine Kd.R_append_rows Kd.string (w0 := w) w.heap.size rfl (.tmp 15) (.tmp 16) 22 9 (.string ⟨#[]⟩) 16 rfl Tryz.underlying22 info9 rfl (by decide) (by omega) (.slice none 0 0) ([] : List ByteArray) (ns.map str) _ _ _ (fun k_ => w.heap.size ≤ k_) (fun _ => False) rfl rfl ?aO ?aR (fun _ _ h => h) (fun _ h => h.elim) ?aF ?aB ?aS ?aL ?_; (case aR => exact Kd.C_drewN hC.out _); (case aF => exact fun k_ hk => hk); (case aO => exact Kd.R_nil _ _ _ _ _); (case aB => exact pw_below_drewN (Below.refl _ _) _); (case aS => exact Nat.le_refl _); (case aL => simp only [List.length_nil]; omega); intro v2 w2 ho2 hb2 hg2 hat2; replace ho2 := Aside0.mk ho2; replace hb2 := Aside0.mk hb2; clear hg2 hat2)
      | ((with_reducible refine gate_builtin (b := .append) (xs := #[.tmp 18, .tmp 20]) rfl ?_); at_builtin; refine Kd.R_append Kd.string (w0 := w) w.heap.size rfl (.tmp 18) (.tmp 20) 22 9 (.string ⟨#[]⟩) 16 rfl Tryz.underlying22 info9 rfl (by decide) (by omega) v2 ([] ++ ns.map str) (str s) [.string (str s)] (fun k_ => w.heap.size ≤ k_) (fun _ => False) rfl rfl ?aP (fun _ hk => hk.elim) ?aF ?aO ?aB ?aS ?aL ?_; (case aP => exact rfl); (case aF => exact fun k_ hk => Nat.le_trans hb2.out.size hk); (case aO => exact ho2.out); (case aB => exact hb2.out); (case aS => exact hb2.out.size); (case aL => simp only [List.nil_append, List.length_map]; omega); intro v3 w3 ho3 hb3 hg3 hat3; rw [show [] ++ ns.map str ++ [str s] = (ns ++ [s]).map str by simp] at ho3; have hR3 := Aside0.mk (show DN 0 (fun b => P b ∨ w.heap.size ≤ b) w3 v3 (ns ++ [s]) from DN.mono (Kd.R_lower ho3 (Nat.zero_le _)) fun _ q => .inr q); obtain ⟨A3, c3, rfl, hc3, -⟩ := DN.reads (ns := ns ++ [s]) ho3; replace hb3 := Aside0.mk hb3; clear ho3 hg3 hat3; rw [hlen] at hc3 ⊢))
    go_ret2
    exact ⟨.slice A3 (ns.length + 1) c3, rfl, by have := hR3.out; rwa [hlen] at this, hb3.out⟩
theorem radd2 {w : World} {v : Value} {ns : List (List UInt8)} (h : RN w v ns) (hl : ns.length ≤ 1000000) (s : List UInt8) :
    Calls Tryz.prog 45 #[v, .string (str s)] w fun e W => ∃ u, e = .returned (.tuple #[u, .int .i64 (findN (addN ns s) s : Nat)]) ∧ RN W u (addN ns s) ∧ Below w.heap.size w W := by
  obtain ⟨P, h⟩ := h
  exact (radd3 h hl s).mono fun e W ⟨u, h1, h2, h3⟩ => ⟨u, h1, ⟨_, h2⟩, h3⟩
end Go.Proofs.YtkbkkceeolclmaaGreatDoor.X
namespace Go.TX
theorem names_nil : Names [] := ⟨List.nodup_nil, fun _ h => by simp at h⟩
end Go.TX
namespace Go.Proofs.YtkbkkceeolclmaaGreatDoor.X
open Go.RowKit Go.TX Go.Proofs.YtkbkkceeolclmaaGreatDoorW.PrintWords Go.Proofs.YtkbkkceeolclmaaGreatDoorL
theorem tight' {w : World} {F : Nat → Prop} {t : Nat} {ns : List (List UInt8)} (h : Tb w F t ns) : Tb w (fun b => F b ∧ b < w.heap.size) t ns := by
  obtain ⟨N, m, h1, h2, h3, h4, h5, h6⟩ := h
  exact ⟨N, m, h1, h2, h3, ⟨h4, blk_lt h1⟩, ⟨h5, h3.lt⟩, fun b hb => ⟨h6 b hb, (owner_lt h2 hb).2⟩⟩
/-- A table and the document's list of the same names, both made since w. -/
def TS (w W : World) (t : Nat) (v : Value) (ns : List (List UInt8)) : Prop :=
  ∃ T P, Tb W T t ns ∧ DN w.heap.size P W v ns ∧ (∀ b, T b → w.heap.size ≤ b ∧ b < W.heap.size) ∧ (∀ b, P b → w.heap.size ≤ b ∧ b < W.heap.size) ∧ (∀ b, T b → ¬ P b) ∧ Below w.heap.size w W
theorem DN.tight {n : Nat} {P : Nat → Prop} {w : World} {v : Value} {ns : List (List UInt8)} (h : DN n P w v ns) : DN n (fun b => P b ∧ n ≤ b ∧ b < w.heap.size) w v ns := (Kd.R_bound h |> fun q => Kd.R_mono q fun _ hb => ⟨hb.1, hb.2.1, hb.2.2.1⟩)
theorem add_off (b o n : Nat) : (⟨b, o, none⟩ : Addr).add n = ⟨b, o + n, none⟩ := by
  unfold Addr.add
  split
  · rename_i e; subst e; rfl
  · rfl
theorem row_at {α : Type} {R : α → List Value → Prop} {size : Nat} {w : World} {A : Option Addr} {n : Nat} {xs : List α} (h : ReadsRow R size w A n xs) (hs : 0 < size) {j : Nat} (hj : j < xs.length) :
    ∃ b o cs, A = some ⟨b, o, none⟩ ∧ b < w.heap.size ∧ cs.length = size ∧ R xs[j] cs ∧ ∀ i u, cs[i]? = some u → w.cell? ⟨b, o + (j * size + i), none⟩ = some u := by
  obtain ⟨h1, _, h2⟩ := h
  obtain ⟨ad, rfl, h3⟩ := h2 (by omega)
  obtain ⟨c0, l0, _, r0⟩ := h3 0 xs[0] (List.getElem?_eq_getElem (by omega))
  obtain ⟨u0, hu0⟩ : ∃ u, c0[0]? = some u := ⟨c0[0], List.getElem?_eq_getElem (by omega)⟩
  have hc := r0 0 u0 hu0
  rw [Nat.zero_mul, Nat.add_zero] at hc
  have hz : ad.add 0 = ad := by unfold Addr.add; simp
  rw [hz] at hc
  obtain ⟨_, _, _, _, hsp⟩ := World.shape?_of_cell? hc
  have hlt := World.block_lt_of_cell? _ _ hc
  obtain ⟨b, o, sp⟩ := ad
  dsimp only at hsp
  subst hsp
  obtain ⟨c, l, r, g⟩ := h3 j xs[j] (List.getElem?_eq_getElem hj)
  refine ⟨b, o, c, rfl, hlt, l, r, fun i u hu => ?_⟩
  have := g i u hu
  rwa [add_off] at this
theorem kds_at {w : World} {A : Option Addr} {ns : List (List UInt8)} (h : Kd.C Kd.string w A ns.length (ns.map str)) {j : Nat} (hj : j < ns.length) : ∃ b o, A = some ⟨b, o, none⟩ ∧ b < w.heap.size ∧ w.cell? ⟨b, o + j, none⟩ = some (.string (str ns[j])) := by
  obtain ⟨b, o, cs, e, hl, h1, h2, h3⟩ := row_at (R := Kd.string.K w) (size := 1) h (by decide) (j := j) (by simpa using hj)
  have hc : cs = [.string (str ns[j])] := by
    have : cs = [Value.string ((ns.map str)[j]'(by simpa using hj))] := h2
    simpa using this
  have := h3 0 (.string (str ns[j])) (by rw [hc]; rfl)
  exact ⟨b, o, e, hl, by simpa using this⟩
end Go.Proofs.YtkbkkceeolclmaaGreatDoor.X
