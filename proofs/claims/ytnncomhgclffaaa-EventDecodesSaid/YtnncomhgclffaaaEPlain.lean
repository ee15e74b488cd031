/- Events of bytes, without memory: what the bytes of a script are, and that each is right. Plain lists and numbers. -/
namespace Go.Proofs.YtnncomhgclffaaaL.Ev

abbrev Ev := Int × (Int × Int × Int) × Int
def hd (l : List Int) : Int := l.headD 0
def evOf (x : Int) (r : List Int) : Ev :=
  if x % 8 < 3 then (1, (hd r + 1, hd r.tail + 1, hd r.tail.tail + 1), 0) else if x % 8 = 3 then (2, (0, 0, 0), hd r) else if x % 8 < 6 then (3, (0, 0, 0), x / 8) else if x % 8 = 6 then (4, (0, 0, 0), x / 8) else (5, (0, 0, 0), 0)
def eat (x : Int) (r : List Int) : List Int := if x % 8 < 3 then r.tail.tail.tail else if x % 8 = 3 then r.tail else r
theorem eat_le (x : Int) (r : List Int) : (eat x r).length ≤ r.length := by
  unfold eat
  split
  · simp; omega
  · split
    · simp
    · exact Nat.le_refl _
def dec : List Int → List Ev
  | [] => []
  | x :: r => evOf x r :: dec (eat x r)
termination_by l => l.length
decreasing_by
  have := eat_le x r
  simp; omega

def right (e : Ev) : Bool :=
  let none := decide (e.2.1 = (0, 0, 0))
  if e.1 = 1 then decide (e.2.2 = 0) && decide (1 ≤ min (min e.2.1.1 e.2.1.2.1) e.2.1.2.2) && decide (max (max e.2.1.1 e.2.1.2.1) e.2.1.2.2 ≤ 256)
  else if e.1 = 2 then none && decide (0 ≤ e.2.2) && decide (e.2.2 < 256)
  else if e.1 = 3 ∨ e.1 = 4 then none && decide (0 ≤ e.2.2) && decide (e.2.2 < 32)
  else none && decide (e.1 = 5) && decide (e.2.2 = 0)

def Bytes (l : List Int) : Prop := ∀ x ∈ l, 0 ≤ x ∧ x < 256
theorem Bytes.tail {l : List Int} (h : Bytes l) : Bytes l.tail := fun x hx => h x (List.mem_of_mem_tail hx)
theorem Bytes.hd {l : List Int} (h : Bytes l) : 0 ≤ hd l ∧ hd l < 256 := by
  cases l with
  | nil => simp [Ev.hd]
  | cons x r => exact h x (by simp)
theorem Bytes.eat {x : Int} {r : List Int} (h : Bytes r) : Bytes (Ev.eat x r) := by
  unfold Ev.eat
  split
  · exact h.tail.tail.tail
  · split
    · exact h.tail
    · exact h

theorem right_evOf {x : Int} {r : List Int} (hx : 0 ≤ x ∧ x < 256) (h : Bytes r) : right (evOf x r) = true := by
  have h0 := h.hd
  have h1 := h.tail.hd
  have h2 := h.tail.tail.hd
  unfold evOf
  split
  · simp [right]; omega
  · split
    · simp [right]; omega
    · split
      · simp [right]; omega
      · split
        · simp [right]; omega
        · simp [right]

theorem right_dec : ∀ (n : Nat) (l : List Int), l.length ≤ n → Bytes l → ∀ e ∈ dec l, right e = true
  | _, [], _, _, e, he => by simp [dec] at he
  | 0, x :: r, hl, _, _, _ => by simp at hl
  | n + 1, x :: r, hl, hb, e, he => by
    rw [dec] at he
    have hr : Bytes r := fun y hy => hb y (by simp [hy])
    rcases List.mem_cons.1 he with rfl | he
    · exact right_evOf (hb x (by simp)) hr
    · exact right_dec n _ (by have := eat_le x r; simp at hl; omega) hr.eat e he
theorem dec_length : ∀ (n : Nat) (l : List Int), l.length ≤ n → (dec l).length ≤ l.length
  | _, [], _ => by simp [dec]
  | 0, x :: r, hl => by simp at hl
  | n + 1, x :: r, hl => by
    have := dec_length n (eat x r) (by have := eat_le x r; simp at hl; omega)
    have := eat_le x r
    rw [dec]; simp; omega
end Go.Proofs.YtnncomhgclffaaaL.Ev
