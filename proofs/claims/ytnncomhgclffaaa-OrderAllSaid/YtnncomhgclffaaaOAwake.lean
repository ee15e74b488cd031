/- The document's example of layer 27. -/
import Derived.Test.YtnncomhgclffaaaOSeq
import Derived.Laws.IdiomStrings
namespace Go.Proofs.Ytnncomhgclffaaa.O
open Go.RowKit Go.Shelf Go.OIter Go.Proofs.YtnncomhgclffaaaW.PrintWords Go.Proofs.Ytnncomhgclffaaa.POrderAll

attribute [local go_sem] Oper.semAt_some

theorem orders_fn (v : Int) (w : World) : Calls Try.prog 59 #[.int .i64 v] w fun e w' => e = .returned (.func (.func 97) #[] #[.pointer (some ⟨w.heap.size, 0, none⟩)]) ∧ w' = w.alloc (.cells #[.int .i64 v] 3) := by
  go_enter Try.func59, Try.ntmps59
  go_wp2
  go_ret
  exact ⟨rfl, rfl⟩

theorem seq_nil (f : Nat) (a : Addr) (w : World) : (binOp .eql 96 (.func (.func f) #[] #[.pointer (some a)]) .nilFunc).run Try.prog w = .ok (.bool false) w := by kernel_rfl
attribute [local go_sem high] seq_nil
/-- What has been written down behind i orders. -/
def said : Nat → ByteArray
  | 0 => ⟨#[]⟩
  | 1 => ⟨#[48, 49, 50, 32]⟩
  | 2 => ⟨#[48, 49, 50, 32, 48, 50, 49, 32]⟩
  | 3 => ⟨#[48, 49, 50, 32, 48, 50, 49, 32, 49, 48, 50, 32]⟩
  | 4 => ⟨#[48, 49, 50, 32, 48, 50, 49, 32, 49, 48, 50, 32, 49, 50, 48, 32]⟩
  | 5 => ⟨#[48, 49, 50, 32, 48, 50, 49, 32, 49, 48, 50, 32, 49, 50, 48, 32, 50, 48, 49, 32]⟩
  | _ => ⟨#[48, 49, 50, 32, 48, 50, 49, 32, 49, 48, 50, 32, 49, 50, 48, 32, 50, 48, 49, 32, 50, 49, 48, 32]⟩

def bt (a : Int) : UInt8 := UInt8.ofNat (48 + a.toNat)
def cat (T : ByteArray) (xs : List Int) : Nat → ByteArray
  | 0 => T
  | k + 1 => cat T xs k ++ ⟨#[bt (xs.getD k 0)]⟩
theorem cat_size (T : ByteArray) (xs : List Int) : ∀ k, (cat T xs k).size = T.size + k
  | 0 => rfl
  | k + 1 => by
    rw [cat, ByteArray.size_append, cat_size T xs k]
    rfl
theorem said_size (i : Nat) : (said i).size ≤ 24 := by
  unfold said
  split <;> decide
theorem said_step (i : Nat) (h : i < 6) : ∀ xs, (orders 3)[i]? = some xs → cat (said i) xs 3 ++ ⟨#[32]⟩ = said (i + 1) := by
  have key : ∀ l, (orders 3)[i]? = some l → cat (said i) l 3 ++ ⟨#[32]⟩ = said (i + 1) → ∀ xs, (orders 3)[i]? = some xs → cat (said i) xs 3 ++ ⟨#[32]⟩ = said (i + 1) := fun l h1 h2 xs h3 => by
    rw [h1] at h3
    cases h3
    exact h2
  obtain rfl | rfl | rfl | rfl | rfl | rfl : i = 0 ∨ i = 1 ∨ i = 2 ∨ i = 3 ∨ i = 4 ∨ i = 5 := by omega
  · exact key [0, 1, 2] (by decide +kernel) (by decide +kernel)
  · exact key [0, 2, 1] (by decide +kernel) (by decide +kernel)
  · exact key [1, 0, 2] (by decide +kernel) (by decide +kernel)
  · exact key [1, 2, 0] (by decide +kernel) (by decide +kernel)
  · exact key [2, 0, 1] (by decide +kernel) (by decide +kernel)
  · exact key [2, 1, 0] (by decide +kernel) (by decide +kernel)

theorem byte_run (a : Int) (h0 : 0 ≤ a) (h1 : a < 6) (w : World) : (convert 22 9 (.slice (some ⟨w.heap.size, 0, none⟩) 1 1)).run Try.prog (w.alloc (.cells #[.int .u8 (wrap64 (48 + a) % 256)] 5)) = .ok (.string ⟨#[bt a]⟩) (w.alloc (.cells #[.int .u8 (wrap64 (48 + a) % 256)] 5)) := by
  have e : wrap64 (48 + a) % 256 = ((bt a).toNat : Int) := by
    obtain rfl | rfl | rfl | rfl | rfl | rfl : a = 0 ∨ a = 1 ∨ a = 2 ∨ a = 3 ∨ a = 4 ∨ a = 5 := by omega
    all_goals decide +kernel
  rw [e]
  exact run_convert_bytes_back (P := Try.prog) (w.alloc (.cells #[.int .u8 ((bt a).toNat : Int)] 5)) 22 9 5 ⟨w.heap.size, 0, none⟩ 1 [bt a] Try.underlying22 Try.underlying5 Try.underlying9 (fun j hj => by
    have : j = 0 := by simpa using hj
    subst this
    have hb := blk_cell (show (w.alloc (.cells #[.int .u8 ((bt a).toNat : Int)] 5)).heap[w.heap.size]? = _ from World.alloc_heap_new w _) 0
    exact hb.trans rfl)

theorem fr_alloc {B : Nat} {v : Value} {A C : World} (h : Fr B v A C) (o : Obj) : Fr B v A (C.alloc o) :=
  ⟨Nat.le_trans h.1 (by simp), fun b hb hl hv => (Below.heap_alloc C o b (Nat.lt_of_lt_of_le hl h.1)).trans (h.2 b hb hl hv)⟩
theorem fr_low {B : Nat} {v : Value} {A C : World} (h : Fr B v A C) (p : Addr) (hp : p.block < B) (u : Value) : Fr B v A (C.setCell p u) :=
  ⟨by simpa using h.1, fun b hb hl hv => (Below.heap_setCell C p u b (by omega)).trans (h.2 b hb hl hv)⟩

/-- What holds while an order is written down. -/
def AR (w : World) (B : Nat) (v : Value) (W : World) (g : Nat) (xs : List Int) (s : ByteArray) (W' : World) : Prop :=
  Boxed W' w.heap.size 9 (.string s) ∧ Below w.heap.size w W' ∧ Fr B v W W' ∧ W.heap.size ≤ W'.heap.size ∧ ∀ j, j < 3 → W'.cell? ⟨g, j, none⟩ = some (.int .i64 (xs.getD j 0))
theorem AR.step {w W W' : World} {B g : Nat} {v : Value} {xs : List Int} {s : ByteArray} (h : AR w B v W g xs s W') (hB : w.heap.size < B) (hg : B ≤ g) (hgl : g < W.heap.size) (o : Obj) (s' : ByteArray) :
    AR w B v W g xs s' ((W'.alloc o).setCell ⟨w.heap.size, 0, none⟩ (.string s')) := by
  obtain ⟨h1, h2, h3, h4, h5⟩ := h
  refine ⟨(h1.alloc o).set _, (h2.alloc h2.size o).setCell (Nat.le_refl _) _, fr_low (fr_alloc h3 o) _ hB _, by simp; omega, fun j hj => ?_⟩
  have e1 : ((W'.alloc o).setCell ⟨w.heap.size, 0, none⟩ (.string s')).cell? ⟨g, j, none⟩ = (W'.alloc o).cell? ⟨g, j, none⟩ := World.cell?_of_block (Below.heap_setCell _ _ _ g (show g ≠ w.heap.size by omega))
  have e2 : (W'.alloc o).cell? ⟨g, j, none⟩ = W'.cell? ⟨g, j, none⟩ := World.cell?_of_block (Below.heap_alloc W' o g (by omega))
  rw [e1, e2]
  exact h5 j hj
theorem AR.last {w W W' : World} {B g : Nat} {v : Value} {xs : List Int} {s : ByteArray} (h : AR w B v W g xs s W') (hB : w.heap.size < B) (s' : ByteArray) :
    Boxed (W'.setCell ⟨w.heap.size, 0, none⟩ (.string s')) w.heap.size 9 (.string s') ∧ Below w.heap.size w (W'.setCell ⟨w.heap.size, 0, none⟩ (.string s')) ∧ Fr B v W (W'.setCell ⟨w.heap.size, 0, none⟩ (.string s')) :=
  ⟨h.1.set _, h.2.1.setCell (Nat.le_refl _) _, fr_low h.2.2.1 _ hB _⟩

def AI (w : World) (pre : List El) (W : World) : Prop := pre.length ≤ 6 ∧ Boxed W w.heap.size 9 (.string (said pre.length)) ∧ Below w.heap.size w W
theorem AI.low (w : World) (B : Nat) (hB : w.heap.size < B) : Low B (AI w) := fun pre A C h hc => ⟨h.1, (hc.block _ hB).trans h.2.1, h.2.2.trans (hc.mono (by omega))⟩

theorem row_at {W : World} {B g n cap : Nat} {xs : List Int} (h : W.ownsRow B 3 1 (.slice (some ⟨g, 0, none⟩) n cap) n (xs.map (.int .i64))) : B ≤ g ∧ g < W.heap.size := by
  rcases h.2 with ⟨h1, _⟩ | ⟨g', cap', cur, h1, hB, hh, _⟩
  · cases h1
  · cases h1
    exact ⟨hB, (Array.getElem?_eq_some_iff.1 hh).1⟩
theorem row_cells {W : World} {B g n cap : Nat} {xs : List Int} (h : W.ownsRow B 3 1 (.slice (some ⟨g, 0, none⟩) n cap) n (xs.map (.int .i64))) (hn : xs.length = n) : ∀ j, j < n → W.cell? ⟨g, j, none⟩ = some (.int .i64 (xs.getD j 0)) := fun j hj => by
  rcases h.2 with ⟨h1, _⟩ | ⟨g', cap', cur, h1, hB, hh, h2, h3, h4, h5⟩
  · cases h1
  · cases h1
    rw [blk_cell hh j]
    have e : (cur.toList.take (n * 1))[j]? = some (.int .i64 (xs.getD j 0)) := by
      rw [h5]
      simp [hn ▸ hj]
    rw [List.getElem?_take_of_lt (by omega)] at e
    simpa using e
theorem order_small {n i : Nat} {xs : List Int} (hn : n ≤ 6) (h : (orders n)[i]? = some xs) : ∀ j, j < n → 0 ≤ xs.getD j 0 ∧ xs.getD j 0 < 6 := fun j hj => by
  have hi : i < fct n := by
    have := (List.getElem?_eq_some_iff.1 h).1
    rwa [orders_len n hn] at this
  obtain ⟨h1, h2⟩ := orders_all n hn i hi
  have e : (orders n).getD i [] = xs := by simp [List.getD, h]
  rw [e] at h1 h2
  have hm : xs.getD j 0 ∈ xs := by
    have hj' : j < xs.length := by omega
    simp [List.getD, List.getElem?_eq_getElem hj']
  have := List.all_eq_true.1 h2 _ hm
  simpa using this

set_option maxRecDepth 100000 in
set_option maxHeartbeats 4000000 in
theorem awake_walk (w : World) : Calls Try.prog 60 #[] w fun e w' => e = .returned (.bool true) ∧ Below w.heap.size w w' := by
  have b1 := Boxed.new w 9 (.string ⟨#[]⟩)
  have hro : Fence.wide.round = none := rfl
  have l1 := Aside0.mk ((Below.refl w.heap.size w).alloc (Nat.le_refl _) (.cells #[.string ⟨#[]⟩] 9))
  refine (callsIn_wide (n := 5)).1 (callsIn_of_wp_marks Try.func60 rfl trivial (wpIn_wide.2 ?_) hro)
  simp only [Try.ntmps60, List.size_toArray, List.length_nil, Nat.reduceSub, Array.replicate_succ, Array.replicate_zero, List.push_toArray, List.append_toArray, List.nil_append, List.cons_append]
  go_wp2_with (go_at_call 59; refine (orders_fn _ _).mono ?_; rintro e w2 ⟨rfl, rfl⟩)
  have hW : Aside0 (AI w [] ((w.alloc (.cells #[.string ⟨#[]⟩] 9)).alloc (.cells #[.int .i64 3] 3))) := ⟨⟨by simp, b1.alloc _, l1.out.alloc (by simp) _⟩⟩
  have hN := Boxed.new (w.alloc (.cells #[.string ⟨#[]⟩] 9)) 3 (.int .i64 3)
  have hs : ((w.alloc (.cells #[.string ⟨#[]⟩] 9)).alloc (.cells #[.int .i64 3] 3)).heap.size = w.heap.size + 2 := by simp
  rw [World.size_alloc] at hN
  generalize (w.alloc (.cells #[.string ⟨#[]⟩] 9)).alloc (.cells #[.int .i64 3] 3) = W2 at hW hN hs ⊢
  clear b1 l1
  refine (wpIn_wide (n := 5)).1 ?_
  refine' OIter.wpIn_range hro (by decide) (gf := 97) (lb := #[.pointer (some ⟨w.heap.size + 1, 0, none⟩)]) rfl trivial (enters_of Try.func97 (by kernel_rfl) rfl)
    (orders_iter (5 - 1) (by decide) (w.heap.size + 1) 3 (by decide) W2 hN) rfl (AI w) (fun _ _ _ => False) (AI.low w _ (by omega)) (fun _ _ _ _ h _ => h) hW.out _ ?assign ?body ?done ?stop
  case assign =>
    intro l x W K hK
    gi_wp2
    exact hK
  case body =>
    rintro l pre ⟨xs, xv⟩ W hI ⟨g1, g2, ⟨g, cap, g3⟩, g4⟩
    dsimp only at g1 g2 g3 g4 ⊢
    subst g3
    have hi : pre.length < 6 := by
      have := (List.getElem?_eq_some_iff.1 g1).1
      rw [orders_len 3 (by decide)] at this
      exact this
    obtain ⟨h1, h2, h3⟩ := hI
    have hcell : ∀ j, j < 3 → W.cell? ⟨g, j, none⟩ = some (.int .i64 (xs.getD j 0)) := row_cells g4 g2
    have hxs : ∀ j, j < 3 → 0 ≤ xs.getD j 0 ∧ xs.getD j 0 < 6 := order_small (by decide) g1
    obtain ⟨hgB, hgl⟩ := row_at g4
    have hR := Aside0.mk (show AR w W2.heap.size (.slice (some ⟨g, 0, none⟩) 3 cap) W g xs (cat (said pre.length) xs 0) W from ⟨h2, h3, Fr.refl _ _ _, Nat.le_refl _, hcell⟩)
    have hB2 : w.heap.size < W2.heap.size := by omega
    have hend := Aside0.mk (said_step pre.length hi xs g1)
    have hT := Aside0.mk (said_size pre.length)
    generalize said pre.length = T at hR hend hT
    clear h2 h3 hcell g1
    gi_wp2
    gi_loopw [13] (fun v wr => ∃ k : Nat, k ≤ 3 ∧ v = .int .i64 k ∧ Aside0 (AR w W2.heap.size (.slice (some ⟨g, 0, none⟩) 3 cap) W g xs (cat T xs k) wr)) (fun v _ => 3 - (RowKit.intOf v).toNat)
    case atStart => exact ⟨0, by omega, rfl, hR⟩
    case round =>
      clear hR
      obtain ⟨k, hk, rfl, hR⟩ := hrel
      by_cases hlt : k < 3
      · have c1 := hR.out.2.2.2.2 k hlt
        have c2 := hR.out.1.cell
        have d2 : ∀ o, (wr.alloc o).cell? ⟨w.heap.size, 0, none⟩ = some (.string (cat T xs k)) := fun o => (hR.out.1.alloc o).cell
        have d3 : ∀ o, (wr.alloc o).frozen? ⟨w.heap.size, 0, none⟩ = false := fun o => (hR.out.1.alloc o).frozen
        obtain ⟨x0, x6⟩ := hxs k hlt
        have hsz : ¬ 9223372036854775807 < (cat T xs k).size + 1 := by
          have := hT.out
          rw [cat_size]
          omega
        have hby := byte_run (xs.getD k 0) x0 x6
        have hst := Aside0.mk (fun o => hR.out.step hB2 (by omega) hgl o (cat T xs (k + 1)))
        rw [show cat T xs (k + 1) = cat T xs k ++ ⟨#[bt (xs.getD k 0)]⟩ from rfl] at hst
        have hst' : Aside0 (∀ o, AR w W2.heap.size (.slice (some ⟨g, 0, none⟩) 3 cap) W g xs (cat T xs (k + 1)) ((wr.alloc o).setCell ⟨w.heap.size, 0, none⟩ (.string (cat T xs k ++ ⟨#[bt (xs.getD k 0)]⟩)))) := hst
        have hlt2 := Aside0.mk (show w.heap.size < wr.heap.size from Nat.lt_of_lt_of_le (by omega) hR.out.2.2.2.1)
        generalize xs.getD k 0 = a at c1 hby hst' 
        generalize cat T xs k = S at c2 d2 hst' hsz
        clear hst hR hxs hend
        gi_wp2
        go_roundw
        case rel => exact ⟨k + 1, by omega, by simp, ⟨hst'.out _⟩⟩
        case measure => simp [RowKit.intOf]; omega
      · obtain rfl : k = 3 := by omega
        have c2 := hR.out.1.cell
        have c3 := hR.out.1.frozen
        have hsz : ¬ 9223372036854775807 < (cat T xs 3).size + 1 := by
          have := hT.out
          rw [cat_size]
          omega
        have hla := Aside0.mk (hR.out.last hB2 (cat T xs 3 ++ ⟨#[32]⟩))
        generalize cat T xs 3 = S at c2 hla hend hsz
        clear hR hxs
        gi_wp2
        obtain ⟨a1, a2, a3⟩ := hla.out
        exact ⟨a3, by simp; omega, by rw [List.length_append, List.length_singleton, ← hend.out]; exact a1, a2⟩
  case done =>
    rintro D ys W hD hl ⟨_, hI2, hI3⟩ hK
    rw [orders_len 3 (by decide)] at hl
    rw [hl] at hI2
    have c2 := hI2.cell
    have hI3' := Aside0.mk hI3
    have hD' := Aside0.mk hD
    clear hI2 hI3 hD
    have e6 : said (fct 3) = ⟨#[48, 49, 50, 32, 48, 50, 49, 32, 49, 48, 50, 32, 49, 50, 48, 32, 50, 48, 49, 32, 50, 49, 48, 32]⟩ := by decide +kernel
    rw [e6] at c2
    clear e6
    go_wp2
    refine ⟨by simp, .inl ⟨_, _, rfl, run_takeDeferred hK, ?_⟩⟩
    exact ⟨_, results_tmp rfl _ _ _, rfl, hI3'.out.trans (belowK_b (w := w) (Nat.le_refl _) W D _ _ (by have := hD'.out; omega) hK rfl rfl)⟩
  case stop =>
    rintro D c pre W _ h _
    exact h.elim
end Go.Proofs.Ytnncomhgclffaaa.O
