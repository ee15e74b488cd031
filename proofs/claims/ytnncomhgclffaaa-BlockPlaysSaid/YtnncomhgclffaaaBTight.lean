/- The blocks of the program's state hold no rows of texts or pairs. -/
import Derived.Test.YtnncomhgclffaaaBBoth
namespace Go.Proofs.Ytnncomhgclffaaa.BI
open Go.RowKit Go.Shelf Go.Proofs.YtnncomhgclffaaaW.PrintWords Go.Proofs.YtnncomhgclffaaaL Go.Proofs.YtnncomhgclffaaaL.Row Go.Proofs.Ytnncomhgclffaaa.LL Go.Proofs.Ytnncomhgclffaaa.LS

/-- Block b is no row of elements of types 9, 124, and no struct of 116. -/
def NoRow (W : World) (b : Nat) : Prop := ∀ cs t, W.heap[b]? = some (.cells cs t (0, 0)) → t ≠ 9 ∧ t ≠ 124 ∧ t ≠ 116

theorem Blk.tight {W : World} {bb N : Nat} {F : Nat → Prop} {ks : List ByteArray} {vs : ByteArray → List Int} (h : Blk W bb F ks vs N) : Blk W bb (fun b => F b ∧ NoRow W b) ks vs N := by
  obtain ⟨lb, mb, Fl, hd, gb, vals, h1, h2, h3⟩ := h
  obtain ⟨mb2, lk, L, l1, l2, l3⟩ := h1.lst
  have map_no : ∀ {P : Program} {k : TypeId} {κ : Type} {c : KeyCode P k κ} {b n : Nat} {m : κ → Option Value}, MapIs c W b m n → NoRow W b := fun hm cs t e => by
    obtain ⟨es, clock, hb, _⟩ := hm
    rw [hb] at e
    cases e
  have cell_no : ∀ {b : Nat} {cs0 : Array Value} {t0 : TypeId}, W.heap[b]? = some (.cells cs0 t0 (0, 0)) → (t0 ≠ 9 ∧ t0 ≠ 124 ∧ t0 ≠ 116) → NoRow W b := fun hb ht cs t e => by
    rw [hb] at e
    cases e
    exact ht
  have lst_no : ∀ b, foot lb mb2 lk L b → NoRow W b := by
    rintro b (rfl | rfl | ⟨y, hy, rfl⟩)
    · exact cell_no l1.head (by decide)
    · exact map_no l1.map
    · obtain ⟨⟨x, nx, pv⟩, e⟩ := Option.isSome_iff_exists.1 hy
      exact cell_no (l1.link y x nx pv e) (by decide)
  refine ⟨lb, mb, fun b => Fl b ∧ foot lb mb2 lk L b, hd, gb, vals, ⟨h1.head, ⟨mb2, lk, L, l1, l2, fun b hb => ⟨l3 b hb, hb⟩⟩, h1.own, h1.by_, h1.nk, h1.emp, h1.val, h1.ginj, fun x => h1.fb x.1, fun x => h1.fm x.1, fun k hk x => h1.fg k hk x.1, h1.gm⟩, ?_, h3⟩
  rintro b (rfl | rfl | hb | ⟨k, hk, rfl⟩)
  · exact ⟨h2 _ (.inl rfl), cell_no h1.head (by decide)⟩
  · exact ⟨h2 _ (.inr (.inl rfl)), map_no h1.own⟩
  · exact ⟨h2 _ (.inr (.inr (.inl hb.1))), lst_no b hb.2⟩
  · exact ⟨h2 _ (.inr (.inr (.inr ⟨k, hk, rfl⟩))), map_no (h1.by_ k hk)⟩
end Go.Proofs.Ytnncomhgclffaaa.BI
