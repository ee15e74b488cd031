/- Rows of matches whose ids are written over; and how many a rising row has. -/
import Derived.Test.YtmhpogajklihdaaDoorCAwake
namespace Go.Proofs.YtmhpogajklihdaaDoor.C
open Go.RowKit Go.Shelf Go.Lib Go.Sort Go.Proofs.YtmhpogajklihdaaDoorW.PrintWords

/-- A row of numbers, from block B on, that may be written. -/
def IntRow (W : World) (B : Nat) (u : Value) : Prop := ∃ A n cap, u = .slice A n cap ∧ n ≤ 9223372036854775807 ∧ ∀ k, k < n → ∃ b cur z, A = some ⟨b, 0, none⟩ ∧ B ≤ b ∧ W.heap[b]? = some (.cells cur 3 (0, 0)) ∧ cur[k]? = some (Value.int .i64 z)

section
variable {w W : World} {B : Nat} {u v : Value}
theorem IntRow.of_own {ids : List Int} (h : IdOwn W B u ids) : IntRow W B u := by
  have hm := owns_max h
  by_cases h0 : 0 < ids.length
  · obtain ⟨g, cap, cur, rfl, hBg, hg, hnc, hcm, hcs, htk⟩ := owns_open h h0
    refine ⟨_, _, _, rfl, by omega, fun k hk => ⟨g, cur, ids[k], rfl, hBg, hg, ?_⟩⟩
    have : (cur.toList.take (ids.length * 1))[k]? = (ids.map (Value.int .i64))[k]? := by rw [htk]
    rw [List.getElem?_take, if_pos (by omega), Array.getElem?_toList] at this
    rw [this]
    simp [hk]
  · obtain ⟨A, cap, rfl⟩ := owns_form h
    exact ⟨A, _, cap, rfl, by omega, fun k hk => absurd hk (by omega)⟩
theorem IntRow.nil : IntRow W B (.slice none 0 0) := ⟨_, _, _, rfl, by omega, fun k hk => absurd hk (by omega)⟩
/-- Another number is put somewhere. -/
theorem IntRow.put (h : IntRow W B u) {b0 k0 : Nat} {cur0 : Array Value} (h0 : W.heap[b0]? = some (.cells cur0 3 (0, 0))) (z0 : Int) : IntRow (W.setCell ⟨b0, k0, none⟩ (.int .i64 z0)) B u := by
  obtain ⟨A, n, cap, rfl, hm, h⟩ := h
  refine ⟨A, n, cap, rfl, hm, fun k hk => ?_⟩
  obtain ⟨b, cur, z, e, hB, hb, hc⟩ := h k hk
  by_cases hbb : b = b0
  · subst hbb
    rw [h0] at hb
    cases hb
    refine ⟨b, _, if k = k0 then z0 else z, e, hB, blk_set h0 k0 (.int .i64 z0), ?_⟩
    by_cases hkk : k = k0
    · subst hkk
      have : k < cur0.size := (Array.getElem?_eq_some_iff.1 hc).1
      simp [this]
    · rw [if_neg hkk, Array.getElem?_setIfInBounds_ne (by omega)]
      exact hc
  · exact ⟨b, cur, z, e, hB, (Below.heap_setCell _ _ _ _ hbb).trans hb, hc⟩
/-- What is put into a block that holds matches. -/
theorem IntRow.far (h : IntRow W B u) {b0 k0 : Nat} {cur0 : Array Value} {T : TypeId} (h0 : W.heap[b0]? = some (.cells cur0 T (0, 0))) (hT : T ≠ 3) (x : Value) : IntRow (W.setCell ⟨b0, k0, none⟩ x) B u := by
  obtain ⟨A, n, cap, rfl, hm, h⟩ := h
  refine ⟨A, n, cap, rfl, hm, fun k hk => ?_⟩
  obtain ⟨b, cur, z, e, hB, hb, hc⟩ := h k hk
  refine ⟨b, cur, z, e, hB, (Below.heap_setCell _ _ _ _ ?_).trans hb, hc⟩
  rintro rfl
  rw [h0] at hb
  cases hb
  exact hT rfl

/-- A row of matches with such rows of ids: N of them, at A. -/
def Wip (W : World) (B : Nat) (A : Option Addr) (cap N : Nat) : Prop := 0 < N → ∃ g m, A = some ⟨g, 0, none⟩ ∧ B ≤ g ∧ m.length = N ∧ RowAt W g cap m ∧ ∀ p ∈ m, IntRow W B p.2.2
theorem Wip.of {l : List P} {A : Option Addr} {cap : Nat} (h : Owns W B 24 (.slice A l.length cap) l) : Wip W B A cap l.length := by
  intro hn
  obtain ⟨g, c, e, hB, hr⟩ := h.row hn
  cases e
  exact ⟨g, l, rfl, hB, rfl, hr, fun p hp => IntRow.of_own (h.2 p hp)⟩
end

theorem nodup_le : ∀ {a b : List M}, a.Nodup → (∀ x ∈ a, x ∈ b) → a.length ≤ b.length
  | [], _, _, _ => Nat.zero_le _
  | x :: a, b, h, hs => by
    obtain ⟨h1, h2⟩ := List.nodup_cons.1 h
    obtain ⟨b1, b2, rfl⟩ := List.append_of_mem (hs x (by simp))
    have := nodup_le (a := a) (b := b1 ++ b2) h2 fun y hy => by
      have hm := hs y (by simp [hy])
      have hne : y ≠ x := fun e => h1 (by rw [← e]; exact hy)
      simp only [List.mem_append, List.mem_cons] at hm ⊢
      rcases hm with h | h | h
      · exact .inl h
      · exact absurd h hne
      · exact .inr h
    simp at this ⊢
    omega
theorem rising_nodup {l : List M} (h : Rising l) : l.Nodup := h.imp fun hab e => by subst e; exact ltM_irrefl _ hab
theorem few_sub {a b : List M} (h : Few b) (hr : Rising a) (hs : ∀ x ∈ a, x ∈ b) : Few a := by
  have := nodup_le (rising_nodup hr) hs
  exact ⟨by have := h.1; omega, fun m hm => h.2 m (hs m hm)⟩
theorem rising_nil {l : List M} (h : ∀ x ∈ l, False) : l = [] := List.eq_nil_iff_forall_not_mem.2 h
end Go.Proofs.YtmhpogajklihdaaDoor.C
