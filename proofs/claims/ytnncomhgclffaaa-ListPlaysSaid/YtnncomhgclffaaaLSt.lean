/- The list and the document's list side by side in memory: what each call leaves of both. -/
import Derived.Test.YtnncomhgclffaaaLRef
namespace Go.Proofs.Ytnncomhgclffaaa.LS
open Go.RowKit Go.Proofs.YtnncomhgclffaaaW.PrintWords Go.Proofs.YtnncomhgclffaaaL Go.Proofs.Ytnncomhgclffaaa.PListPlays

/-- The document's list: two rows of the call's own, in blocks among F. -/
def Ref (w : World) (B : Nat) (F : Nat → Prop) (v0 v1 : Value) (row : List Int) (vals : List ByteArray) : Prop := (Kd.int .i64).R 3 w B F v0 row ∧ Kd.string.R 9 w B F v1 vals

theorem Ref.mono {w : World} {B : Nat} {F F' : Nat → Prop} {v0 v1 : Value} {row : List Int} {vals : List ByteArray} (h : Ref w B F v0 v1 row vals) (hf : ∀ k, F k → F' k) : Ref w B F' v0 v1 row vals := ⟨Kd.R_mono h.1 hf, Kd.R_mono h.2 hf⟩
theorem Ref.bound {w : World} {B : Nat} {F : Nat → Prop} {v0 v1 : Value} {row : List Int} {vals : List ByteArray} (h : Ref w B F v0 v1 row vals) : Ref w B (fun k => F k ∧ B ≤ k ∧ k < w.heap.size) v0 v1 row vals :=
  ⟨Kd.R_mono (Kd.R_bound h.1) (fun _ hk => ⟨hk.1, hk.2.1, hk.2.2.1⟩), Kd.R_mono (Kd.R_bound h.2) (fun _ hk => ⟨hk.1, hk.2.1, hk.2.2.1⟩)⟩
theorem Ref.step {w W : World} {B : Nat} {F : Nat → Prop} {v0 v1 : Value} {row : List Int} {vals : List ByteArray} (h : Ref w B F v0 v1 row vals) (hm : ∀ k, F k → k < w.heap.size → W.heap[k]? = w.heap[k]?) : Ref W B F v0 v1 row vals := ⟨Kd.R_step h.1 hm, Kd.R_step h.2 hm⟩
theorem Ref.lower {w : World} {B B' : Nat} {F : Nat → Prop} {v0 v1 : Value} {row : List Int} {vals : List ByteArray} (h : Ref w B F v0 v1 row vals) (hb : B' ≤ B) : Ref w B' F v0 v1 row vals := ⟨Kd.R_lower h.1 hb, Kd.R_lower h.2 hb⟩

/-- Both lists, in blocks apart from one another and from the boxes xs. -/
def StE (w0 : World) (lb : Nat) (xs : List Nat) (W : World) (row : List Int) (vals : List ByteArray) (v0 v1 : Value) (row' : List Int) (vals' : List ByteArray) : Prop :=
  ∃ Fl Fr : Nat → Prop, Lst W lb Fl row vals ∧ Ref W w0.heap.size Fr v0 v1 row' vals' ∧ (∀ b, Fl b → ¬ Fr b) ∧ (∀ b, Fl b → w0.heap.size ≤ b ∧ b ∉ xs ∧ b < W.heap.size) ∧ (∀ b, Fr b → w0.heap.size ≤ b ∧ b ∉ xs ∧ b < W.heap.size) ∧ (∀ b ∈ xs, w0.heap.size ≤ b ∧ b < W.heap.size) ∧ Below w0.heap.size w0 W

def Same (xs : List Nat) (W W' : World) : Prop := ∀ b ∈ xs, W'.heap[b]? = W.heap[b]?

section
variable {w0 W W' : World} {lb : Nat} {xs : List Nat} {row row' : List Int} {vals vals' : List ByteArray} {v0 v1 : Value}

theorem StE.below (h : StE w0 lb xs W row vals v0 v1 row' vals') : Below w0.heap.size w0 W := by
  obtain ⟨_, _, _, _, _, _, _, _, h⟩ := h
  exact h
theorem StE.form (h : StE w0 lb xs W row vals v0 v1 row' vals') : ∃ A0 c0 A1 c1, v0 = .slice A0 row'.length c0 ∧ v1 = .slice A1 vals'.length c1 := by
  obtain ⟨_, _, _, hr, _⟩ := h
  obtain ⟨A0, c0, e0⟩ := Kd.R_slice hr.1
  obtain ⟨A1, c1, e1⟩ := Kd.R_slice hr.2
  exact ⟨A0, c0, A1, c1, e0, e1⟩
theorem StE.facts (h : StE w0 lb xs W row vals v0 v1 row' vals') : row.Nodup ∧ ∀ x ∈ row, 1 ≤ x ∧ x ≤ vals.length := by
  obtain ⟨_, _, hl, _⟩ := h
  exact hl.facts
/-- Memory made, the boxes written, orders drawn: both lists stand. -/
theorem StE.step (h : StE w0 lb xs W row vals v0 v1 row' vals') (hs : W.heap.size ≤ W'.heap.size) (hk : ∀ b, b < W.heap.size → b ∉ xs → W'.heap[b]? = W.heap[b]?) (hb : Below w0.heap.size w0 W') : StE w0 lb xs W' row vals v0 v1 row' vals' := by
  obtain ⟨Fl, Fr, hl, hr, hd, hfl, hfr, hx, _⟩ := h
  exact ⟨Fl, Fr, hl.move (fun b hb hlt => hk b hlt (hfl b hb).2.1), hr.step (fun b hb hlt => hk b hlt (hfr b hb).2.1), hd, fun b hb => ⟨(hfl b hb).1, (hfl b hb).2.1, Nat.lt_of_lt_of_le (hfl b hb).2.2 hs⟩, fun b hb => ⟨(hfr b hb).1, (hfr b hb).2.1, Nat.lt_of_lt_of_le (hfr b hb).2.2 hs⟩, fun b hb => ⟨(hx b hb).1, Nat.lt_of_lt_of_le (hx b hb).2 hs⟩, hb⟩
theorem StE.drew (h : StE w0 lb xs W row vals v0 v1 row' vals') : StE w0 lb xs W.drew row vals v0 v1 row' vals' := h.step (Nat.le_refl _) (fun _ _ _ => rfl) h.below.drew
/-- A box more. -/
theorem StE.box (h : StE w0 lb xs W row vals v0 v1 row' vals') (o : Obj) : StE w0 lb (W.heap.size :: xs) (W.alloc o) row vals v0 v1 row' vals' := by
  have hb := h.below
  have hk : ∀ b, b < W.heap.size → (W.alloc o).heap[b]? = W.heap[b]? := fun b hb => ((Below.refl _ W).alloc (Nat.le_refl _) o).block b hb
  obtain ⟨Fl, Fr, hl, hr, hd, hfl, hfr, hx, _⟩ := h
  have hsz : (W.alloc o).heap.size = W.heap.size + 1 := World.size_alloc _ _
  refine ⟨Fl, Fr, hl.move (fun b _ hlt => hk b hlt), hr.step (fun b _ hlt => hk b hlt), hd, fun b hb => ⟨(hfl b hb).1, ?_, ?_⟩, fun b hb => ⟨(hfr b hb).1, ?_, ?_⟩, fun b hb2 => ?_, hb.alloc hb.size o⟩
  · have := hfl b hb
    simp only [List.mem_cons, not_or]
    exact ⟨by omega, this.2.1⟩
  · have := hfl b hb; omega
  · have := hfr b hb
    simp only [List.mem_cons, not_or]
    exact ⟨by omega, this.2.1⟩
  · have := hfr b hb; omega
  · rcases List.mem_cons.1 hb2 with rfl | hb2
    · exact ⟨hb.size, by omega⟩
    · have := hx b hb2; omega
theorem StE.fewer {ys : List Nat} (h : StE w0 lb xs W row vals v0 v1 row' vals') (hy : ∀ b ∈ ys, b ∈ xs) : StE w0 lb ys W row vals v0 v1 row' vals' := by
  obtain ⟨Fl, Fr, hl, hr, hd, hfl, hfr, hx, hb⟩ := h
  exact ⟨Fl, Fr, hl, hr, hd, fun b hb => ⟨(hfl b hb).1, fun h => (hfl b hb).2.1 (hy b h), (hfl b hb).2.2⟩, fun b hb => ⟨(hfr b hb).1, fun h => (hfr b hb).2.1 (hy b h), (hfr b hb).2.2⟩, fun b hb => hx b (hy b hb), hb⟩

theorem StE.alloc (h : StE w0 lb xs W row vals v0 v1 row' vals') (o : Obj) : StE w0 lb xs (W.alloc o) row vals v0 v1 row' vals' := (h.box o).fewer (fun _ hb => List.mem_cons_of_mem _ hb)
theorem StE.setx {p : Addr} (h : StE w0 lb xs W row vals v0 v1 row' vals') (hp : p.block ∈ xs) (u : Value) : StE w0 lb xs (W.setCell p u) row vals v0 v1 row' vals' := by
  have hx : w0.heap.size ≤ p.block := by
    obtain ⟨_, _, _, _, _, _, _, hx, _⟩ := h
    exact (hx _ hp).1
  exact h.step (by simp [World.setCell]) (fun b _ hn => Below.heap_setCell _ _ _ _ (fun e => hn (e ▸ hp))) (h.below.setCell hx u)
theorem StE.lt (h : StE w0 lb xs W row vals v0 v1 row' vals') {b : Nat} (hb : b ∈ xs) : b < W.heap.size := by
  obtain ⟨_, _, _, _, _, _, _, hx, _⟩ := h
  exact (hx b hb).2

/-- What a call of the list under proof leaves. -/
theorem StE.after (Fl Fr : Nat → Prop) {r : Value} {row2 : List Int} {vals2 : List ByteArray} {e : Ending} (hP : LPost W Fl lb r row2 vals2 e W') (hr : Ref W w0.heap.size Fr v0 v1 row' vals') (hd : ∀ b, Fl b → ¬ Fr b) (hfl : ∀ b, Fl b → w0.heap.size ≤ b ∧ b ∉ xs ∧ b < W.heap.size)
    (hfr : ∀ b, Fr b → w0.heap.size ≤ b ∧ b ∉ xs ∧ b < W.heap.size) (hx : ∀ b ∈ xs, w0.heap.size ≤ b ∧ b < W.heap.size) (hb : Below w0.heap.size w0 W) : StE w0 lb xs W' row2 vals2 v0 v1 row' vals' ∧ Same xs W W' := by
  obtain ⟨_, hl, hc⟩ := hP
  have hsz := hc.size
  refine ⟨⟨fun b => (Fl b ∨ W.heap.size ≤ b) ∧ b < W'.heap.size, Fr, hl.bound, hr.step (fun b hb hlt => hc.block b hlt (fun hf => hd b hf hb)), ?_, ?_, fun b hb => ⟨(hfr b hb).1, (hfr b hb).2.1, by have := (hfr b hb).2.2; omega⟩, fun b hb => ⟨(hx b hb).1, by have := (hx b hb).2; omega⟩, ?_⟩, fun b hb => hc.block b (hx b hb).2 (fun hf => (hfl b hf).2.1 hb)⟩
  · rintro b ⟨hf | hf, _⟩ h2
    · exact hd b hf h2
    · have := (hfr b h2).2.2; omega
  · rintro b ⟨hf | hf, hlt⟩
    · exact ⟨(hfl b hf).1, (hfl b hf).2.1, hlt⟩
    · exact ⟨by have := hb.size; omega, fun hm => by have := (hx b hm).2; omega, hlt⟩
  · exact hc.below hb hb.size (fun b hf => (hfl b hf).1)

/-- What a call of the document's list leaves. -/
theorem StE.afterR (Fl Fr : Nat → Prop) {u0 u1 : Value} {row2 : List Int} {vals2 : List ByteArray} (hl : Lst W lb Fl row vals) (hr : Ref W' w0.heap.size (fun k => Fr k ∨ W.heap.size ≤ k) u0 u1 row2 vals2) (hk : Kept W W' Fr) (hd : ∀ b, Fl b → ¬ Fr b) (hfl : ∀ b, Fl b → w0.heap.size ≤ b ∧ b ∉ xs ∧ b < W.heap.size)
    (hfr : ∀ b, Fr b → w0.heap.size ≤ b ∧ b ∉ xs ∧ b < W.heap.size) (hx : ∀ b ∈ xs, w0.heap.size ≤ b ∧ b < W.heap.size) (hb0 : Below w0.heap.size w0 W) (hb : Below w0.heap.size w0 W') : StE w0 lb xs W' row vals u0 u1 row2 vals2 ∧ Same xs W W' := by
  have hsz := hk.1
  refine ⟨⟨Fl, fun b => (Fr b ∨ W.heap.size ≤ b) ∧ b < W'.heap.size, hl.move (fun b hf hlt => hk.2 b hlt (fun h2 => hd b hf h2)), hr.bound.mono (fun b hb => ⟨hb.1, hb.2.2⟩), ?_, fun b hf => ⟨(hfl b hf).1, (hfl b hf).2.1, by have := (hfl b hf).2.2; omega⟩, ?_, fun b hb => ⟨(hx b hb).1, by have := (hx b hb).2; omega⟩, hb⟩, fun b hb => hk.2 b (hx b hb).2 (fun hf => (hfr b hf).2.1 hb)⟩
  · rintro b hf ⟨h2 | h2, _⟩
    · exact hd b hf h2
    · have := (hfl b hf).2.2; omega
  · rintro b ⟨hf | hf, hlt⟩
    · exact ⟨(hfr b hf).1, (hfr b hf).2.1, hlt⟩
    · exact ⟨by have := hb0.size; omega, fun hm => by have := (hx b hm).2; omega, hlt⟩

/-- How a call of the list ends that writes. -/
def LDid (w0 : World) (lb : Nat) (xs : List Nat) (W : World) (r : Value) (row : List Int) (vals : List ByteArray) (v0 v1 : Value) (row' : List Int) (vals' : List ByteArray) (e : Ending) (W' : World) : Prop :=
  e = .returned r ∧ StE w0 lb xs W' row vals v0 v1 row' vals' ∧ Same xs W W'

theorem push_st (v : ByteArray) (h : StE w0 lb xs W row vals v0 v1 row' vals') (hl : vals.length < 100000) :
    Calls Try.prog 44 #[.pointer (some ⟨lb, 0, none⟩), .string v] W (LDid w0 lb xs W (.int .i64 ((vals.length : Int) + 1)) (row ++ [(vals.length : Int) + 1]) (vals ++ [v]) v0 v1 row' vals') := by
  obtain ⟨Fl, Fr, hL, hr, hd, hfl, hfr, hx, hb⟩ := h
  exact (push_lst v hL hl).mono fun e W' hP => ⟨hP.1, StE.after Fl Fr hP hr hd hfl hfr hx hb⟩

/-- The row behind a Before of h. -/
def putR (row : List Int) (n : Int) (h : Int) : List Int := if h ∈ row then row.take (row.idxOf h) ++ n :: row.drop (row.idxOf h) else row

theorem split_at {row : List Int} {h : Int} (hm : h ∈ row) : ∃ a b, row = a ++ h :: b ∧ h ∉ a ∧ row.take (row.idxOf h) = a ∧ row.drop (row.idxOf h) = h :: b := by
  have hi := List.idxOf_lt_length_iff.2 hm
  refine ⟨row.take (row.idxOf h), row.drop (row.idxOf h + 1), ?_, ?_, rfl, ?_⟩
  · have : row.drop (row.idxOf h) = h :: row.drop (row.idxOf h + 1) := by
      rw [List.drop_eq_getElem_cons hi]; congr 1; exact List.getElem_idxOf hi
    rw [← this, List.take_append_drop]
  · intro hc
    obtain ⟨j, hj, e⟩ := List.getElem_of_mem hc
    rw [List.length_take] at hj
    rw [List.getElem_take] at e
    have : row.idxOf h ≤ j := by
      by_cases hlt : j < row.idxOf h
      · exact absurd e (List.not_of_lt_findIdx (p := (· == h)) (by simpa [List.idxOf] using hlt) |> fun q => by simpa using q)
      · omega
    omega
  · rw [List.drop_eq_getElem_cons hi]; congr 1; exact List.getElem_idxOf hi

theorem notin_filter {a b : List Int} {h : Int} (hn : (a ++ h :: b).Nodup) : (a ++ h :: b).filter (fun x => decide (x ≠ h)) = a ++ b := by
  have h1 : h ∉ a := fun hc => by
    have := List.nodup_append.1 hn
    exact this.2.2 h hc h (by simp) rfl
  have h2 : h ∉ b := by
    have := (List.nodup_append.1 hn).2.1
    exact (List.nodup_cons.1 this).1
  have f1 : ∀ l : List Int, h ∉ l → l.filter (fun x => decide (x ≠ h)) = l := fun l hl => List.filter_eq_self.2 (fun x hx => by simp; rintro rfl; exact hl hx)
  rw [List.filter_append, List.filter_cons, if_neg (by simp), f1 a h1, f1 b h2]

/-- What Before answers. -/
def befN (row : List Int) (n h : Int) : Int := if h ∈ row then n else 0
def befV (row : List Int) (vals : List ByteArray) (h : Int) (v : ByteArray) : List ByteArray := if h ∈ row then vals ++ [v] else vals

theorem before_st (x : Int) (v : ByteArray) (hwx : (Lit.int .i64 x).wf = true) (h : StE w0 lb xs W row vals v0 v1 row' vals') (hl : vals.length < 100000) :
    Calls Try.prog 46 #[.pointer (some ⟨lb, 0, none⟩), .int .i64 x, .string v] W (LDid w0 lb xs W (.int .i64 (befN row ((vals.length : Int) + 1) x)) (putR row ((vals.length : Int) + 1) x) (befV row vals x v) v0 v1 row' vals') := by
  obtain ⟨Fl, Fr, hL, hr, hd, hfl, hfr, hx, hb⟩ := h
  by_cases hm : x ∈ row
  · obtain ⟨a, b, e, ha, ht, hdp⟩ := split_at hm
    simp only [befN, putR, befV, if_pos hm, ht, hdp]
    rw [e] at hL
    exact (before_lst v hL hl).mono fun e W' hP => ⟨hP.1, StE.after Fl Fr hP hr hd hfl hfr hx hb⟩
  · simp only [befN, putR, befV, if_neg hm]
    refine (before_lst_none v hL hm hwx).mono ?_
    rintro e W' ⟨rfl, rfl⟩
    exact ⟨rfl, ⟨Fl, Fr, hL, hr, hd, hfl, hfr, hx, hb⟩, fun _ _ => rfl⟩

theorem remove_st (x : Int) (hwx : (Lit.int .i64 x).wf = true) (h : StE w0 lb xs W row vals v0 v1 row' vals') (hl : vals.length < 100000) :
    Calls Try.prog 49 #[.pointer (some ⟨lb, 0, none⟩), .int .i64 x] W (LDid w0 lb xs W (.tuple #[.string (getV row vals x), .bool (decide (x ∈ row))]) (row.filter (fun y => decide (y ≠ x))) vals v0 v1 row' vals') := by
  have hfa := h.facts
  obtain ⟨Fl, Fr, hL, hr, hd, hfl, hfr, hx, hb⟩ := h
  by_cases hm : x ∈ row
  · obtain ⟨a, b, e, ha, ht, hdp⟩ := split_at hm
    have hn := hfa.1
    rw [e] at hL hn
    rw [e, notin_filter hn, ← e]
    simp only [getV, hm, decide_true]
    exact (remove_lst hL hl).mono fun e W' hP => ⟨hP.1, StE.after Fl Fr hP hr hd hfl hfr hx hb⟩
  · have hf : row.filter (fun y => decide (y ≠ x)) = row := List.filter_eq_self.2 (fun y hy => by simp; rintro rfl; exact hm hy)
    rw [hf]
    simp only [getV, hm, decide_false]
    refine (remove_lst_none hL hm hwx).mono ?_
    rintro e W' ⟨rfl, rfl⟩
    exact ⟨rfl, ⟨Fl, Fr, hL, hr, hd, hfl, hfr, hx, hb⟩, fun _ _ => rfl⟩

theorem get_st (x : Int) (hwx : (Lit.int .i64 x).wf = true) (h : StE w0 lb xs W row vals v0 v1 row' vals') :
    Calls Try.prog 50 #[.pointer (some ⟨lb, 0, none⟩), .int .i64 x] W fun e W' => e = .returned (.tuple #[.string (getV row vals x), .bool (decide (x ∈ row))]) ∧ W = W' := by
  obtain ⟨Fl, Fr, hL, _⟩ := h
  exact get_lst hL hwx
theorem next_st (x : Int) (hwx : (Lit.int .i64 x).wf = true) (h : StE w0 lb xs W row vals v0 v1 row' vals') :
    Calls Try.prog 51 #[.pointer (some ⟨lb, 0, none⟩), .int .i64 x] W fun e W' => e = .returned (.int .i64 (nextR row x)) ∧ W = W' := by
  obtain ⟨Fl, Fr, hL, _⟩ := h
  exact next_lst hL hwx
theorem prev_st (x : Int) (hwx : (Lit.int .i64 x).wf = true) (h : StE w0 lb xs W row vals v0 v1 row' vals') :
    Calls Try.prog 53 #[.pointer (some ⟨lb, 0, none⟩), .int .i64 x] W fun e W' => e = .returned (.int .i64 (prevR row x)) ∧ W = W' := by
  obtain ⟨Fl, Fr, hL, _⟩ := h
  exact prev_lst hL hwx
theorem len_st (h : StE w0 lb xs W row vals v0 v1 row' vals') (hl : row.length < 100000) :
    Calls Try.prog 54 #[.pointer (some ⟨lb, 0, none⟩)] W fun e W' => e = .returned (.int .i64 row.length) ∧ W = W' := by
  obtain ⟨Fl, Fr, hL, _⟩ := h
  exact len_lst hL hl

/-- How a call of the document's list ends that makes a list: val tells the answer from the list. -/
def RDid (w0 : World) (lb : Nat) (xs : List Nat) (W : World) (val : Value → Value) (row : List Int) (vals : List ByteArray) (row' : List Int) (vals' : List ByteArray) (e : Ending) (W' : World) : Prop :=
  ∃ A0 c0 A1 c1, e = .returned (val (.agg #[.slice A0 row'.length c0, .slice A1 vals'.length c1])) ∧ StE w0 lb xs W' row vals (.slice A0 row'.length c0) (.slice A1 vals'.length c1) row' vals' ∧ Same xs W W'

theorem rpush_st (v : ByteArray) (h : StE w0 lb xs W row vals v0 v1 row' vals') (hl : row'.length < 100000) (hv : vals'.length < 100000) :
    Calls Try.prog 43 #[.agg #[v0, v1], .string v] W (RDid w0 lb xs W (fun a => .tuple #[a, .int .i64 ((vals'.length : Int) + 1)]) row vals (row' ++ [(vals'.length : Int) + 1]) (vals' ++ [v])) := by
  obtain ⟨Fl, Fr, hL, hr, hd, hfl, hfr, hx, hb⟩ := h
  obtain ⟨A0, c0, rfl, k0, r0⟩ := Kd.R_reads hr.1
  obtain ⟨A1, c1, rfl, k1, r1⟩ := Kd.R_reads hr.2
  refine (retiaryref09_Push.calls A0 c0 row' A1 c1 vals' v _ _ _ W r0 k0 r1 k1 (push_eq row' vals' v (by omega) (by omega))).mono ?_
  rintro e W' ⟨u0, u1, rfl, q0, q1, hbe⟩
  obtain ⟨B0, d0, rfl⟩ := Kd.R_slice q0
  obtain ⟨B1, d1, rfl⟩ := Kd.R_slice q1
  have hq : Ref W' W.heap.size (fun _ => True) _ _ _ _ := ⟨q0, q1⟩
  exact ⟨B0, d0, B1, d1, rfl, StE.afterR Fl Fr hL ((hq.bound.lower hb.size).mono (fun k hk => .inr hk.2.1)) (Kept.of_below hbe _) hd hfl hfr hx hb (hb.trans (hbe.mono hb.size))⟩

theorem rbefore_st (x : Int) (v : ByteArray) (h : StE w0 lb xs W row vals v0 v1 row' vals') (hl : row'.length < 100000) (hv : vals'.length < 100000) :
    Calls Try.prog 45 #[.agg #[v0, v1], .int .i64 x, .string v] W (RDid w0 lb xs W (fun a => .tuple #[a, .int .i64 (befN row' ((vals'.length : Int) + 1) x)]) row vals (putR row' ((vals'.length : Int) + 1) x) (befV row' vals' x v)) := by
  obtain ⟨Fl, Fr, hL, hr, hd, hfl, hfr, hx, hb⟩ := h
  have hf : retiaryref09_Before.f (row'.length + 1) row' vals' x v = some (putR row' ((vals'.length : Int) + 1) x, befV row' vals' x v, befN row' ((vals'.length : Int) + 1) x) := by
    by_cases hm : x ∈ row'
    · obtain ⟨a, b, e, ha, ht, hdp⟩ := split_at hm
      have := before_eq a b x vals' v ha (by rw [← e]; omega) (by omega)
      rw [← e] at this
      simp only [befN, putR, befV, if_pos hm, ht, hdp]
      exact this
    · simp only [befN, putR, befV, if_neg hm]
      exact before_eq_none row' x vals' v hm (by omega)
  refine (retiaryref09_Before.calls _ Fr v0 row' Fr v1 vals' x v _ _ _ w0 W hb hr.1 hr.2 hf).mono ?_
  rintro e W' ⟨u0, u1, rfl, q0, q1, hbe, hk⟩
  obtain ⟨B0, d0, rfl⟩ := Kd.R_slice q0
  obtain ⟨B1, d1, rfl⟩ := Kd.R_slice q1
  have hq : Ref W' w0.heap.size (fun k => (Fr k ∨ Fr k) ∨ W.heap.size ≤ k) _ _ _ _ := ⟨q0, q1⟩
  exact ⟨B0, d0, B1, d1, rfl, StE.afterR Fl Fr hL (hq.mono (fun k hk => hk.imp (fun h => h.elim id id) id)) (hk.mono (fun k h => h.elim id id)) hd hfl hfr hx hb hbe⟩

theorem rremove_st (x : Int) (h : StE w0 lb xs W row vals v0 v1 row' vals') (hl : row'.length < 100000) :
    Calls Try.prog 48 #[.agg #[v0, v1], .int .i64 x] W (RDid w0 lb xs W (fun a => a) row vals (row'.filter (fun y => decide (y ≠ x))) vals') := by
  obtain ⟨Fl, Fr, hL, hr, hd, hfl, hfr, hx, hb⟩ := h
  obtain ⟨A0, c0, rfl, k0, _⟩ := Kd.R_reads hr.1
  have h1 := Kd.R_bound hr.1
  have h2 := Kd.R_bound hr.2
  refine (retiaryref09_Remove.calls (row'.length + 1) A0 c0 row' (fun k => Fr k ∧ ∃ cells, W.heap[k]? = some (.cells cells 9 (0, 0))) v1 vals' x _ _ w0 W hb ?_ k0 (Kd.R_mono h2 ?_) (remove_eq row' vals' x (by omega))).mono ?_
  · intro W_ hk
    have hs : (Kd.int .i64).R 3 W_ w0.heap.size Fr (.slice A0 row'.length c0) row' := by
      refine Kd.R_mono (Kd.R_step h1 (fun k ⟨hf, _, hlt, q, hq, cells, hc⟩ _ => hk.2 k hlt ?_)) (fun k hk => hk.1)
      rintro ⟨_, cells2, hc2⟩
      obtain rfl : q = 3 := by
        rcases List.mem_cons.1 hq with h | h
        · exact h
        · cases h
      rw [hc] at hc2
      injection hc2 with hc2
      injection hc2 with _ hc2
      exact absurd hc2 (by decide)
    exact (Kd.R_reads' hs).2.2
  · rintro k ⟨hf, _, hlt, q, hq, cells, hc⟩
    obtain rfl : q = 9 := by
      rcases List.mem_cons.1 hq with h | h
      · exact h
      · cases h
    exact ⟨hf, cells, hc⟩
  · rintro e W' ⟨u0, u1, rfl, q0, q1, hbe, hk⟩
    obtain ⟨B0, d0, rfl⟩ := Kd.R_slice q0
    obtain ⟨B1, d1, rfl⟩ := Kd.R_slice q1
    have hq : Ref W' w0.heap.size (fun k => (Fr k ∧ ∃ cells, W.heap[k]? = some (.cells cells 9 (0, 0))) ∨ W.heap.size ≤ k) _ _ _ _ := ⟨q0, q1⟩
    exact ⟨B0, d0, B1, d1, rfl, StE.afterR Fl Fr hL (hq.mono (fun k hk => hk.imp And.left id)) (hk.mono (fun k h => h.1)) hd hfl hfr hx hb hbe⟩

theorem rget_st (x : Int) (h : StE w0 lb xs W row vals v0 v1 row' vals') (hl : row'.length < 100000) (hv : vals'.length < 100000) (hf : ∀ x ∈ row', 1 ≤ x ∧ x ≤ vals'.length) :
    Calls Try.prog 47 #[.agg #[v0, v1], .int .i64 x] W fun e W' => e = .returned (.tuple #[.string (getV row' vals' x), .bool (decide (x ∈ row'))]) ∧ StE w0 lb xs W' row vals v0 v1 row' vals' ∧ Same xs W W' := by
  obtain ⟨Fl, Fr, hL, hr, hd, hfl, hfr, hx, hb⟩ := h
  obtain ⟨A0, c0, rfl, k0, r0⟩ := Kd.R_reads hr.1
  obtain ⟨A1, c1, rfl, k1, r1⟩ := Kd.R_reads hr.2
  refine (retiaryref09_Get.calls _ A0 c0 row' A1 c1 vals' x _ _ W r0 k0 r1 k1 (get_eq row' vals' x (by omega) (by omega) hf)).mono ?_
  rintro e W' ⟨rfl, hbe⟩
  exact ⟨rfl, StE.afterR Fl Fr hL ((hr.step (fun k _ hlt => hbe.block k hlt)).mono (fun k hk => .inl hk)) (Kept.of_below hbe _) hd hfl hfr hx hb (hb.trans (hbe.mono hb.size))⟩

theorem rnext_st (x by_ r : Int) (h : StE w0 lb xs W row vals v0 v1 row' vals') (hf : retiaryref09_Next.f (row'.length + 1) row' vals' x by_ = some r) :
    Calls Try.prog 52 #[.agg #[v0, v1], .int .i64 x, .int .i64 by_] W fun e W' => e = .returned (.int .i64 r) ∧ StE w0 lb xs W' row vals v0 v1 row' vals' ∧ Same xs W W' := by
  obtain ⟨Fl, Fr, hL, hr, hd, hfl, hfr, hx, hb⟩ := h
  obtain ⟨A0, c0, rfl, k0, r0⟩ := Kd.R_reads hr.1
  obtain ⟨A1, c1, rfl, k1, r1⟩ := Kd.R_reads hr.2
  refine (retiaryref09_Next.calls _ A0 c0 row' A1 c1 vals' x by_ _ W r0 k0 r1 k1 hf).mono ?_
  rintro e W' ⟨rfl, hbe⟩
  exact ⟨rfl, StE.afterR Fl Fr hL ((hr.step (fun k _ hlt => hbe.block k hlt)).mono (fun k hk => .inl hk)) (Kept.of_below hbe _) hd hfl hfr hx hb (hb.trans (hbe.mono hb.size))⟩
end
end Go.Proofs.Ytnncomhgclffaaa.LS
