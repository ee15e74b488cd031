/- The blocks of package block at owners of strings and blockers of ints, in memory. -/
import Derived.Test.YtnncomhgclffaaaBIter
namespace Go.Proofs.Ytnncomhgclffaaa.BI
open Go.RowKit Go.Shelf Go.Proofs.YtnncomhgclffaaaW.PrintWords Go.Proofs.YtnncomhgclffaaaL Go.Proofs.Ytnncomhgclffaaa.LL Go.Proofs.Ytnncomhgclffaaa.LS

def strCode : KeyCode Try.prog 9 ByteArray where
  enc := fun s => .string s
  good := fun s => s.size ≤ maxLen
  lit := fun s => .string s.data.toList
  keyed := Maps.string_keyed Try.underlying9
  of := fun _ h => WideMaps.keyOf_string_mk (P := Try.prog) Try.underlying9 h
  inj := fun _ _ h => by cases h; rfl

noncomputable instance memDec (k : ByteArray) (ks : List ByteArray) : Decidable (k ∈ ks) := Classical.propDecidable _

/-- How many pairs there are. -/
def sumOf (ks : List ByteArray) (vs : ByteArray → List Int) : Nat := (ks.map fun k => (vs k).length).sum
def upd {α : Type} (f : ByteArray → α) (k : ByteArray) (x : α) : ByteArray → α := fun y => if y = k then x else f y
theorem upd_same {α : Type} (f : ByteArray → α) (k : ByteArray) (x : α) : upd f k x k = x := if_pos rfl
theorem upd_other {α : Type} (f : ByteArray → α) {k y : ByteArray} (h : y ≠ k) (x : α) : upd f k x y = f y := if_neg h

theorem sumOf_congr {ks : List ByteArray} {vs vs' : ByteArray → List Int} (h : ∀ k ∈ ks, (vs k).length = (vs' k).length) : sumOf ks vs = sumOf ks vs' := by
  unfold sumOf
  rw [List.map_congr_left h]
theorem sumOf_append (a b : List ByteArray) (vs : ByteArray → List Int) : sumOf (a ++ b) vs = sumOf a vs + sumOf b vs := by simp [sumOf]
theorem sumOf_cons (a : ByteArray) (b : List ByteArray) (vs : ByteArray → List Int) : sumOf (a :: b) vs = (vs a).length + sumOf b vs := by simp [sumOf]
theorem sumOf_upd {a b : List ByteArray} {k : ByteArray} (hn : (a ++ k :: b).Nodup) (vs : ByteArray → List Int) (x : List Int) : sumOf (a ++ k :: b) (upd vs k x) = sumOf (a ++ b) vs + x.length := by
  have h1 : ∀ y ∈ a, (upd vs k x y).length = (vs y).length := fun y hy => by
    rw [upd_other]
    rintro rfl
    rw [List.nodup_append] at hn
    exact hn.2.2 y hy y (by simp) rfl
  have h2 : ∀ y ∈ b, (upd vs k x y).length = (vs y).length := fun y hy => by
    rw [upd_other]
    rintro rfl
    rw [List.nodup_append] at hn
    exact (List.nodup_cons.1 hn.2.1).1 hy
  rw [sumOf_append, sumOf_cons, upd_same, sumOf_congr h1, sumOf_congr h2, sumOf_append]
  omega
theorem sumOf_at {ks : List ByteArray} {k : ByteArray} (hk : k ∈ ks) (vs : ByteArray → List Int) : (vs k).length ≤ sumOf ks vs := by
  obtain ⟨a, b, rfl⟩ := List.append_of_mem hk
  rw [sumOf_append, sumOf_cons]
  omega

def ownerOf (h : Int) (g : Nat) : Value := .agg #[.int .i64 h, .map (some g)]
noncomputable def ownMap (hd : ByteArray → Int) (gb : ByteArray → Nat) (ks : List ByteArray) (k : ByteArray) : Option Value := if k ∈ ks then some (ownerOf (hd k) (gb k)) else none
def byMap (l : List Int) (v : Int) : Option Value := if v ∈ l then some (.int .i64 1) else none

/-- The blocks at block bb: owners ks in the order of their opening, each with its blockers vs. -/
structure BIs (w : World) (bb lb mb : Nat) (Fl : Nat → Prop) (hd : ByteArray → Int) (gb : ByteArray → Nat) (ks : List ByteArray) (vs : ByteArray → List Int) (vals : List ByteArray) : Prop where
  head : w.heap[bb]? = some (.cells #[.pointer (some ⟨lb, 0, none⟩), .map (some mb), .int .i64 (sumOf ks vs)] 173 (0, 0))
  lst : Lst w lb Fl (ks.map hd) vals
  own : MapIs strCode w mb (ownMap hd gb ks) ks.length
  by_ : ∀ k ∈ ks, MapIs intCode w (gb k) (byMap (vs k)) (vs k).length
  nk : ks.Nodup
  emp : ∀ k, k ∉ ks → vs k = []
  val : ∀ k ∈ ks, vOf vals (hd k) = k
  ginj : ∀ k ∈ ks, ∀ k' ∈ ks, gb k = gb k' → k = k'
  fb : ¬ Fl bb
  fm : ¬ Fl mb
  fg : ∀ k ∈ ks, ¬ Fl (gb k)
  gm : ∀ k ∈ ks, gb k ≠ mb

def BFoot (bb mb : Nat) (Fl : Nat → Prop) (gb : ByteArray → Nat) (ks : List ByteArray) (b : Nat) : Prop := b = bb ∨ b = mb ∨ Fl b ∨ ∃ k ∈ ks, b = gb k

section
variable {w W : World} {bb lb mb : Nat} {Fl : Nat → Prop} {hd : ByteArray → Int} {gb : ByteArray → Nat} {ks : List ByteArray} {vs : ByteArray → List Int} {vals : List ByteArray}

theorem BIs.map_ne (h : BIs w bb lb mb Fl hd gb ks vs vals) : mb ≠ bb := by
  intro e
  obtain ⟨es, clock, hb, _⟩ := h.own
  rw [e, h.head] at hb
  cases hb
theorem BIs.g_ne (h : BIs w bb lb mb Fl hd gb ks vs vals) {k : ByteArray} (hk : k ∈ ks) : gb k ≠ bb := by
  intro e
  obtain ⟨es, clock, hb, _⟩ := h.by_ k hk
  rw [e, h.head] at hb
  cases hb
theorem BIs.foot_lt (h : BIs w bb lb mb Fl hd gb ks vs vals) {b : Nat} (hb : BFoot bb mb (fun b => Fl b ∧ b < w.heap.size) gb ks b) : b < w.heap.size := by
  rcases hb with rfl | rfl | hb | ⟨k, hk, rfl⟩
  · exact blk_lt h.head
  · exact h.own.lt
  · exact hb.2
  · exact (h.by_ k hk).lt
theorem BIs.move (h : BIs w bb lb mb Fl hd gb ks vs vals) (hk : ∀ b, BFoot bb mb Fl gb ks b → b < w.heap.size → W.heap[b]? = w.heap[b]?) : BIs W bb lb mb Fl hd gb ks vs vals :=
  ⟨(hk bb (.inl rfl) (blk_lt h.head)).trans h.head, h.lst.move (fun b hb hl => hk b (.inr (.inr (.inl hb))) hl), h.own.of_heap (hk mb (.inr (.inl rfl)) h.own.lt),
   fun k hm => (h.by_ k hm).of_heap (hk _ (.inr (.inr (.inr ⟨k, hm, rfl⟩))) (h.by_ k hm).lt), h.nk, h.emp, h.val, h.ginj, h.fb, h.fm, h.fg, h.gm⟩
theorem BIs.bound (h : BIs w bb lb mb Fl hd gb ks vs vals) : BIs w bb lb mb (fun b => Fl b ∧ b < w.heap.size) hd gb ks vs vals :=
  ⟨h.head, h.lst.bound, h.own, h.by_, h.nk, h.emp, h.val, h.ginj, fun x => h.fb x.1, fun x => h.fm x.1, fun k hk x => h.fg k hk x.1, h.gm⟩
theorem BIs.hinj (h : BIs w bb lb mb Fl hd gb ks vs vals) {k k' : ByteArray} (hk : k ∈ ks) (hk' : k' ∈ ks) (e : hd k = hd k') : k = k' := by
  rw [← h.val k hk, e, h.val k' hk']

/-- An owner is opened: the list has one handle more, the map of owners one owner, whose map of blockers is new. -/
theorem BIs.opened (h : BIs w bb lb mb Fl hd gb ks vs vals) {k : ByteArray} {h' : Int} {g' : Nat} {Fl' : Nat → Prop} (hk : k ∉ ks)
    (hh : W.heap[bb]? = w.heap[bb]?) (hlst : Lst W lb Fl' (ks.map hd ++ [h']) (vals ++ [k])) (he : h' = (vals.length : Int) + 1)
    (hm : MapIs strCode W mb (mset (ownMap hd gb ks) k (some (ownerOf h' g'))) (ks.length + 1)) (hg : MapIs intCode W g' (fun _ => none) 0)
    (hold : ∀ k ∈ ks, W.heap[gb k]? = w.heap[gb k]?) (hfl : ∀ b, b < w.heap.size → Fl' b → Fl b) (hg' : w.heap.size ≤ g') (hgf : ¬ Fl' g') :
    BIs W bb lb mb Fl' (upd hd k h') (upd gb k g') (ks ++ [k]) vs (vals ++ [k]) := by
  have ne : ∀ y ∈ ks, y ≠ k := fun y hy e => hk (e ▸ hy)
  have e1 : (ks ++ [k]).map (upd hd k h') = ks.map hd ++ [h'] := by
    rw [List.map_append, List.map_congr_left (g := hd) (fun y hy => upd_other hd (ne y hy) h')]
    simp [upd_same]
  have hbd := h.lst.facts.2
  refine ⟨?_, by rw [e1]; exact hlst, ?_, ?_, ?_, ?_, ?_, ?_, fun x => h.fb (hfl bb (blk_lt h.head) x), fun x => h.fm (hfl mb h.own.lt x), ?_, ?_⟩
  · rw [hh, h.head, sumOf_append, sumOf_cons, h.emp k hk]; simp [sumOf]
  · rw [List.length_append]
    refine hm.congr fun x => ?_
    unfold ownMap
    by_cases hx : x = k
    · subst hx; rw [mset_same]; simp [upd_same]
    · rw [mset_other _ hx]; simp [hx, upd_other]
  · intro y hy
    rcases List.mem_append.1 hy with hy | hy
    · rw [upd_other _ (ne y hy)]; exact (h.by_ y hy).of_heap (hold y hy)
    · rw [List.mem_singleton.1 hy, upd_same, h.emp k hk]; exact hg.congr (fun v => by simp [byMap])
  · rw [List.nodup_append]; exact ⟨h.nk, by simp, fun a ha b hb => by simp at hb; rw [hb]; exact ne a ha⟩
  · intro y hy; exact h.emp y (fun h => hy (by simp [h]))
  · intro y hy
    rcases List.mem_append.1 hy with hy | hy
    · rw [upd_other _ (ne y hy)]
      have := hbd (hd y) (List.mem_map.2 ⟨y, hy, rfl⟩)
      have e := h.val y hy
      unfold vOf at e ⊢
      rw [List.getElem?_append_left (by omega)]; exact e
    · rw [List.mem_singleton.1 hy, upd_same, he]
      unfold vOf
      rw [List.getElem?_append_right (by omega)]
      have : ((vals.length : Int) + 1 - 1).toNat - vals.length = 0 := by omega
      rw [this]; rfl
  · intro y hy z hz e
    rcases List.mem_append.1 hy with hy | hy <;> rcases List.mem_append.1 hz with hz | hz
    · rw [upd_other _ (ne y hy), upd_other _ (ne z hz)] at e; exact h.ginj y hy z hz e
    · rw [upd_other _ (ne y hy), List.mem_singleton.1 hz, upd_same] at e
      have := (h.by_ y hy).lt; omega
    · rw [upd_other _ (ne z hz), List.mem_singleton.1 hy, upd_same] at e
      have := (h.by_ z hz).lt; omega
    · rw [List.mem_singleton.1 hy, List.mem_singleton.1 hz]
  · intro y hy x
    rcases List.mem_append.1 hy with hy | hy
    · rw [upd_other _ (ne y hy)] at x; exact h.fg y hy (hfl _ (h.by_ y hy).lt x)
    · rw [List.mem_singleton.1 hy, upd_same] at x; exact hgf x
  · intro y hy x
    rcases List.mem_append.1 hy with hy | hy
    · rw [upd_other _ (ne y hy)] at x; exact h.gm y hy x
    · rw [List.mem_singleton.1 hy, upd_same] at x; have := h.own.lt; omega

/-- The blockers of an owner change. -/
theorem BIs.changed (h : BIs w bb lb mb Fl hd gb ks vs vals) {k : ByteArray} {x : List Int} (hk : k ∈ ks)
    (hh : W.heap[bb]? = some (.cells #[.pointer (some ⟨lb, 0, none⟩), .map (some mb), .int .i64 (sumOf ks (upd vs k x))] 173 (0, 0)))
    (hm : MapIs intCode W (gb k) (byMap x) x.length) (hold : ∀ b, b < w.heap.size → b ≠ bb → b ≠ gb k → W.heap[b]? = w.heap[b]?) :
    BIs W bb lb mb Fl hd gb ks (upd vs k x) vals := by
  refine ⟨hh, h.lst.move (fun b hb hl => hold b hl (fun e => h.fb (e ▸ hb)) (fun e => h.fg k hk (e ▸ hb))), h.own.of_heap (hold mb h.own.lt h.map_ne (fun e => h.gm k hk e.symm)), ?_, h.nk, ?_, h.val, h.ginj, h.fb, h.fm, h.fg, h.gm⟩
  · intro y hy
    by_cases e : y = k
    · subst e; rw [upd_same]; exact hm
    · rw [upd_other _ e]; exact (h.by_ y hy).of_heap (hold _ (h.by_ y hy).lt (h.g_ne hy) (fun e2 => e (h.ginj y hy k hk e2)))
  · intro y hy
    rw [upd_other _ (fun e => hy (by rw [e]; exact hk))]; exact h.emp y hy

/-- An owner is closed. -/
theorem BIs.closed {a b : List ByteArray} {k : ByteArray} (h : BIs w bb lb mb Fl hd gb (a ++ k :: b) vs vals) {Fl' : Nat → Prop}
    (hh : W.heap[bb]? = some (.cells #[.pointer (some ⟨lb, 0, none⟩), .map (some mb), .int .i64 (sumOf (a ++ b) vs)] 173 (0, 0)))
    (hlst : Lst W lb Fl' (a.map hd ++ b.map hd) vals)
    (hm : MapIs strCode W mb (mset (ownMap hd gb (a ++ k :: b)) k none) ((a ++ k :: b).length - 1))
    (hold : ∀ k ∈ a ++ b, W.heap[gb k]? = w.heap[gb k]?) (hfl : ∀ b, b < w.heap.size → Fl' b → Fl b) :
    BIs W bb lb mb Fl' hd gb (a ++ b) (upd vs k []) vals := by
  have hn := h.nk
  have sub : ∀ y ∈ a ++ b, y ∈ a ++ k :: b ∧ y ≠ k := fun y hy => by
    refine ⟨by simp at hy ⊢; rcases hy with h | h <;> simp [h], ?_⟩
    rintro rfl
    rw [List.nodup_append] at hn
    rcases List.mem_append.1 hy with h1 | h1
    · exact hn.2.2 y h1 y (by simp) rfl
    · exact (List.nodup_cons.1 hn.2.1).1 h1
  refine ⟨?_, by rw [List.map_append]; exact hlst, ?_, ?_, ?_, ?_, fun y hy => h.val y (sub y hy).1, fun y hy z hz e => h.ginj y (sub y hy).1 z (sub z hz).1 e, fun x => h.fb (hfl bb (blk_lt h.head) x), fun x => h.fm (hfl mb h.own.lt x), fun y hy x => h.fg y (sub y hy).1 (hfl _ (h.by_ y (sub y hy).1).lt x), fun y hy => h.gm y (sub y hy).1⟩
  · rw [hh, sumOf_congr (vs := vs) (vs' := upd vs k []) (fun y hy => (congrArg List.length (upd_other vs (sub y hy).2 [])).symm)]
  · have e : (a ++ k :: b).length - 1 = (a ++ b).length := by simp
    rw [e] at hm
    refine hm.congr fun x => ?_
    unfold ownMap
    by_cases hx : x = k
    · subst hx; rw [mset_same, if_neg (fun hy => (sub x hy).2 rfl)]
    · rw [mset_other _ hx]
      have : (x ∈ a ++ k :: b) = (x ∈ a ++ b) := by simp [hx]
      simp only [this]
  · intro y hy
    rw [upd_other _ (sub y hy).2]
    exact (h.by_ y (sub y hy).1).of_heap (hold y hy)
  · rw [List.nodup_append] at hn ⊢
    exact ⟨hn.1, (List.nodup_cons.1 hn.2.1).2, fun x hx y hy => hn.2.2 x hx y (by simp [hy])⟩
  · intro y hy
    by_cases e : y = k
    · subst e; exact upd_same _ _ _
    · rw [upd_other _ e]; exact h.emp y (fun h1 => hy (by simp at h1 ⊢; rcases h1 with h1 | h1 | h1; exact .inl h1; exact absurd h1 e; exact .inr h1))
end
end Go.Proofs.Ytnncomhgclffaaa.BI
