/- The ways to where a variable stands, and whether all of them are in place. -/
import Derived.Test.YtkbkkceeolclmaaGreatDoorQ26
set_option linter.unusedVariables false
set_option linter.unusedSimpArgs false
namespace Go.TX
mutual
theorem waysC_deep (v : Int) : ∀ (x : Cd) (pre w : List Nat), w ∈ waysC v x pre → w.length ≤ pre.length + csize x
  | .mk k a b c subs, pre, w, h => by
    unfold waysC at h
    split at h
    · have := ways_deep v subs 0 pre w h
      simp only [csize]
      omega
    · split at h
      · simp at h
        subst h
        simp only [csize]
        omega
      · simp at h
theorem ways_deep (v : Int) : ∀ (l : List Cd) (i : Nat) (pre w : List Nat), w ∈ ways v l i pre → w.length ≤ pre.length + 1 + csizeL l
  | [], _, _, _, h => by simp [ways] at h
  | x :: l, i, pre, w, h => by
    rw [ways, List.mem_append] at h
    rcases h with h | h
    · have := waysC_deep v x (pre ++ [i]) w h
      simp [csizeL] at this ⊢
      omega
    · have := ways_deep v l (i + 1) pre w h
      simp only [csizeL]
      omega
end
end Go.TX
namespace Go.Proofs.YtkbkkceeolclmaaGreatDoor.X
open Go.RowKit Go.TX Go.Proofs.YtkbkkceeolclmaaGreatDoorW.PrintWords Go.Proofs.YtkbkkceeolclmaaGreatDoorL
/-- What a call has made can be read. -/
theorem ways_of_own {n : Nat} {W : World} {V : Value} {ws : List (List Nat)} (h : OW n W V ws) (h0 : 0 < ws.length) : ∃ a c, V = .slice (some ⟨a, 0, none⟩) ws.length c ∧ a < W.heap.size ∧ Ways W a 0 ws := by
  obtain ⟨vs, hl, ho, hr⟩ := h
  obtain ⟨g, cap, rfl, _, hgl⟩ := owns_form1 ho h0
  refine ⟨g, cap, rfl, hgl, fun i hi => ?_⟩
  obtain ⟨v, h1, h2, h3⟩ := hr i hi
  obtain ⟨b, c, rfl, _, hbl⟩ := owns_form1 h3 h2
  have hc := ho.cells (g := g) rfl i _ h1
  have e : (⟨g, 0, none⟩ : Addr).add i = ⟨g, 0 + i, none⟩ := by
    unfold Addr.add
    split
    · rename_i e; subst e; rfl
    · simp
  rw [e] at hc
  have hw := wayAt_of_own h3
  rcases hw with ⟨e1, _⟩ | ⟨b1, c1, e1, _, h6⟩
  · cases e1
  · cases e1
    rcases h3.2 with ⟨e2, _⟩ | ⟨g2, cap2, cur2, e2, _, _, q1, q2, _⟩
    · cases e2
    · cases e2
      exact ⟨b, c, hc, hbl, q1, by first | exact q2 | (unfold maxLen at q2; omega), h6⟩
set_option maxRecDepth 100000 in
set_option maxHeartbeats 4000000 in
theorem places_walk (name : ByteArray) (l : List Cd) (A : Option Addr) (cap : Nat) (v : Int) (w : World) (F : Nat → Prop) (hs : csizeL l ≤ 50000) (hR : RepL evA w F l A 0) :
    Calls Tryz.prog 53 #[.agg #[.string name, .slice A l.length cap], .int .i64 v] w fun e W => ∃ V, e = .returned V ∧ Below w.heap.size w W ∧ OW w.heap.size W V (TX.ways v l 0 []) := by
  have hB0 := Aside0.mk (((Below.refl w.heap.size w).alloc (Nat.le_refl _) (.cells #[.string name, .slice A l.length cap] 25)).alloc (by simp) (.cells #[.slice none 0 0] 114))
  have hx0 := Aside0.mk (blk_alloc (blk_new w (.cells #[.string name, .slice A l.length cap] 25)) (.cells #[.slice none 0 0] 114))
  have hp0 := blk_new (w.alloc (.cells #[.string name, .slice A l.length cap] 25)) (.cells #[.slice none 0 0] 114)
  simp only [World.size_alloc] at hp0
  replace hp0 := Aside0.mk hp0
  have hR1 := Aside0.mk ((RepL.mono (G := fun b => b < w.heap.size) (fun b hb => hb.2) l A 0 (RepL.bound l A 0 hR)).below hB0.out)
  clear hR
  go_enter Tryz.func53, Tryz.ntmps53
  go_upto_region 2 with fail
  generalize (w.alloc (.cells #[.string name, .slice A l.length cap] 25)).alloc (.cells #[.slice none 0 0] 114) = W at hB0 hx0 hp0 hR1 ⊢
  have hcall := Aside0.mk (walk74 v w.heap.size (w.heap.size + 1) (csizeL l + 1) l A cap [] (.slice none 0 0) (.slice none 0 0) [] W (by omega) (by simp; omega) (by simp; omega) hR1.out hB0.out.size (Nat.le_succ _) hp0.out (OW.nil _ _) (World.ownsRow_nil _ _ _ _))
  have x1 := (blk_cell hx0.out 1).trans (show _ = some (Value.slice A l.length cap) from rfl)
  clear hx0 hp0 hR1
  go_wp2_with (go_at_call 74; refine hcall.out.mono ?_; rintro e w2 ⟨⟨u, rfl⟩, V2, hW2⟩; have p0 := (blk_cell hW2.box 0).trans (show _ = some V2 from rfl); obtain ⟨A2, c2, rfl⟩ := hW2.row.form; replace hW2 := Aside0.mk hW2)
  go_ret
  exact ⟨_, rfl, hB0.out.trans hW2.out.low, hW2.out.row⟩
set_option maxRecDepth 100000 in
theorem placed_walk (name : ByteArray) (l : List Cd) (A : Option Addr) (cap : Nat) (v : Int) (w : World) (F : Nat → Prop) (hs : csizeL l ≤ 50000) (hR : RepL evA w F l A 0) (n : Nat) (V : Value) (hV : OW n w V (TX.ways v l 0 [])) :
    Calls Tryz.prog 52 #[.agg #[.string name, .slice A l.length cap], V] w fun e W => e = .returned (.bool (inPlace l (TX.ways v l 0 []))) ∧ Below w.heap.size w W := by
  have hlen := ways_len v l 0 []
  have hdeep := ways_deep v l 0 []
  have hat := ways_at v l 0 []
  generalize TX.ways v l 0 [] = ws at hV hlen hdeep hat ⊢
  cases ws with
  | nil =>
    obtain ⟨A2, c2, rfl⟩ := hV.form
    exact place_nil name _ A2 c2 w
  | cons w0 ws =>
    obtain ⟨a, c, rfl, ha, hw⟩ := ways_of_own hV (by simp)
    obtain ⟨j, r, y, _, e1, e2⟩ := hat w0 (by simp)
    rw [List.length_cons] at hlen
    refine place_walk name l A cap w F hR a c w0 ws hw ha (by omega) (fun x hx => ?_) y ?_
    · have := hdeep x hx
      simp at this
      omega
    · rw [e1, List.nil_append]
      rw [Nat.sub_zero] at e2
      exact e2
end Go.Proofs.YtkbkkceeolclmaaGreatDoor.X
