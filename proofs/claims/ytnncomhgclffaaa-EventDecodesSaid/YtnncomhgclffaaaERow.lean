/- The law EventDecodes at the bytes of an argument. -/
import Derived.Test.YtnncomhgclffaaaELaw
namespace Go.Proofs.Ytnncomhgclffaaa.EV
open Go.RowKit Go.Proofs.YtnncomhgclffaaaW.PrintWords Go.Proofs.YtnncomhgclffaaaL Go.Proofs.YtnncomhgclffaaaL.Ev

/-- A byte, as it lies in memory. -/
def opB (x : Int) (cs : List Value) : Prop := cs = [.int .u8 x] ∧ 0 ≤ x ∧ x < 256

theorem rd_of_row {w : World} {A : Option Addr} {len cap : Nat} {xs : List Int} (hr : ReadsRow opB 1 w A len xs) (hc : len ≤ cap) (hl : len ≤ 1000000) : Rd w.heap.size w (.slice A len cap) xs := by
  obtain ⟨rfl, _, hread⟩ := hr
  have hby : Bytes xs := fun x hx => by
    obtain ⟨i, hi, rfl⟩ := List.getElem_of_mem hx
    obtain ⟨ad, _, hcs⟩ := hread (by omega)
    obtain ⟨c, _, ⟨_, hb⟩, _⟩ := hcs i xs[i] (List.getElem?_eq_getElem hi)
    exact hb
  refine ⟨A, cap, rfl, hc, hl, hby, fun hp => ?_⟩
  obtain ⟨ad, rfl, hcs⟩ := hread hp
  have hs : ad.spot = none := by
    obtain ⟨c0, _, ⟨rfl, _⟩, h0⟩ := hcs 0 xs[0] (List.getElem?_eq_getElem hp)
    have := h0 0 _ rfl
    simp only [Nat.zero_mul, Nat.add_zero, Addr.add, if_true, World.cell?] at this
    split at this
    · split at this
      · cases this
      · rename_i hn
        simpa using hn
    · cases this
  obtain ⟨b, off, sp⟩ := ad
  dsimp only at hs
  subst hs
  have ha : ∀ n, (⟨b, off, none⟩ : Addr).add n = ⟨b, off + n, none⟩ := fun n => by
    unfold Addr.add
    split
    · rename_i e; subst e; rfl
    · rfl
  have hcell : ∀ i (h : i < xs.length), w.cell? ⟨b, off + i, none⟩ = some (.int .u8 xs[i]) := fun i hi => by
    obtain ⟨c, _, ⟨rfl, _⟩, h⟩ := hcs i xs[i] (List.getElem?_eq_getElem hi)
    have := h 0 _ rfl
    rw [ha, Nat.mul_one, Nat.add_zero] at this
    exact this
  exact ⟨b, off, rfl, World.block_lt_of_cell? w _ (hcell 0 hp), hcell⟩

set_option maxRecDepth 100000 in
theorem law_any (A : Option Addr) (len cap : Nat) (xs : List Int) (w : World) (hr : ReadsRow opB 1 w A len xs) (hc : len ≤ cap) : Calls Try.prog 8 #[.slice A len cap] w (ret1 w) := by
  by_cases hbig : 300 < len
  · have hlen : len ≤ 9223372036854775807 := hr.2.1
    clear hr hc
    go_enter Try.func8, Try.ntmps8
    go_wp2_with (go_at_call 37; refine (awake_walk _).mono ?_; rintro e w2 ⟨rfl, b2⟩; replace b2 := Aside0.mk b2)
    go_ret
    exact ⟨rfl, b2.out⟩
  · exact law_walk w _ xs (rd_of_row hr hc (by omega))
end Go.Proofs.Ytnncomhgclffaaa.EV
