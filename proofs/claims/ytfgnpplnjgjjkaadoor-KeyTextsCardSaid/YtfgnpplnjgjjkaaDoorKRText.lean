/- The walk of the document's text of a key. -/
import Derived.Test.YtfgnpplnjgjjkaaDoorTDigits
import Derived.Test.YtfgnpplnjgjjkaaDoorKYn
namespace Go.Proofs.YtfgnpplnjgjjkaaDoor.T
open Go.RowKit Go.Lib Go.Proofs.YtfgnpplnjgjjkaaDoorW.PrintWords Go.Proofs.YtfgnpplnjgjjkaaDoor.K

def QB (w : World) (qb : Nat) (a b c : Int) (W : World) : Prop := W.heap[qb]? = some (.cells #[.int .i64 a, .int .i64 b, .int .i64 c] 22 (0, 0)) ∧ Below w.heap.size w W ∧ w.heap.size ≤ W.heap.size
theorem QB.keep {w W W' : World} {qb : Nat} {a b c : Int} (h : QB w qb a b c W) (hb : Below W.heap.size W W') : QB w qb a b c W' :=
  ⟨blk_below h.1 hb, h.2.1.trans (hb.mono h.2.2), Nat.le_trans h.2.2 hb.size⟩

theorem app3 (a b : List UInt8) : str a ++ ⟨#[32]⟩ ++ str b = str (a ++ 32 :: b) := by
  apply ByteArray.ext
  simp [str]
set_option maxHeartbeats 4000000 in
set_option maxRecDepth 100000 in
theorem refText_walk (a b c : Int) (hR : rightR 0 a b c = true) (w : World) :
    Calls Tryd.prog 32 #[.agg #[.int .i64 a, .int .i64 b, .int .i64 c]] w fun e w' => e = .returned (.string (str (ktext3 a.toNat b.toNat c.toNat))) ∧ Below w.heap.size w w' := by
  have hpa := kright_parts hR
  have ka : a ≠ 0 → kword a.toNat = decDigits a.toNat := fun h => by unfold kword; rw [if_neg (by omega)]
  have kb : b ≠ 0 → kword b.toNat = decDigits b.toNat := fun h => by unfold kword; rw [if_neg (by omega)]
  have kc : c ≠ 0 → kword c.toNat = decDigits c.toNat := fun h => by unfold kword; rw [if_neg (by omega)]
  have za : a = 0 → str (kword a.toNat) = ⟨#[42]⟩ := fun h => by subst h; rfl
  have zb : b = 0 → str (kword b.toNat) = ⟨#[42]⟩ := fun h => by subst h; rfl
  have zc : c = 0 → str (kword c.toNat) = ⟨#[42]⟩ := fun h => by subst h; rfl
  have ca : a ≠ 0 → ∀ w, Calls Tryd.prog 26 #[.int .i64 a] w fun e w' => e = .returned (.string (str (kword a.toNat))) ∧ Below w.heap.size w w' := fun h w => by rw [ka h]; exact digits_any a (by omega) (by omega) w
  have cb : b ≠ 0 → ∀ w, Calls Tryd.prog 26 #[.int .i64 b] w fun e w' => e = .returned (.string (str (kword b.toNat))) ∧ Below w.heap.size w w' := fun h w => by rw [kb h]; exact digits_any b (by omega) (by omega) w
  have cc : c ≠ 0 → ∀ w, Calls Tryd.prog 26 #[.int .i64 c] w fun e w' => e = .returned (.string (str (kword c.toNat))) ∧ Below w.heap.size w w' := fun h w => by rw [kc h]; exact digits_any c (by omega) (by omega) w
  have la := kword_len (n := a.toNat) (by omega)
  have lb := kword_len (n := b.toNat) (by omega)
  have lc := kword_len (n := c.toNat) (by omega)
  have e2 : str (kword a.toNat) ++ ⟨#[32]⟩ ++ str (kword b.toNat) = str (kword a.toNat ++ 32 :: kword b.toNat) := app3 _ _
  have e3 : str (kword a.toNat ++ 32 :: kword b.toNat) ++ ⟨#[32]⟩ ++ str (kword c.toNat) = str (ktext3 a.toNat b.toNat c.toNat) := by
    rw [app3]; congr 1; simp [ktext3]
  have e1 : (⟨#[]⟩ : ByteArray) ++ str (kword a.toNat) = str (kword a.toNat) := by
    apply ByteArray.ext; simp
  have s2 : (str (kword a.toNat ++ 32 :: kword b.toNat)).size ≤ 19 := by rw [str_size]; simp; omega
  rw [← str_size] at la lb lc
  clear ka kb kc hpa hR
  generalize str (ktext3 a.toNat b.toNat c.toNat) = p3 at e3 ⊢
  generalize str (kword a.toNat ++ 32 :: kword b.toNat) = p2 at e2 e3 s2
  generalize str (kword a.toNat) = xa at *
  generalize str (kword b.toNat) = xb at *
  generalize str (kword c.toNat) = xc at *
  have f1 : ¬ 9223372036854775807 < xa.size := by omega
  have f2 : ¬ 9223372036854775807 < xa.size + 1 := by omega
  have f3 : ¬ 9223372036854775807 < xa.size + 1 + xb.size := by omega
  have f4 : ¬ 9223372036854775807 < xa.size + 1 + 1 := by omega
  have f5 : ¬ 9223372036854775807 < p2.size + 1 := by omega
  have f6 : ¬ 9223372036854775807 < p2.size + 1 + xc.size := by omega
  have f7 : ¬ 9223372036854775807 < p2.size + 1 + 1 := by omega
  replace e1 := Aside0.mk e1
  replace e2 := Aside0.mk e2
  replace e3 := Aside0.mk e3
  replace ca := Aside0.mk ca
  replace cb := Aside0.mk cb
  replace cc := Aside0.mk cc
  replace za := Aside0.mk za
  replace zb := Aside0.mk zb
  replace zc := Aside0.mk zc
  clear la lb lc s2
  have hI : QB w w.heap.size a b c (w.alloc (.cells #[.int .i64 a, .int .i64 b, .int .i64 c] 22)) := ⟨blk_new _ _, (Below.refl _ _).alloc (Nat.le_refl _) _, by rw [World.size_alloc]; omega⟩
  replace hI := Aside0.mk hI
  go_enter Tryd.func32, Tryd.ntmps32
  go_wp2_with fail
  obtain ⟨qb, hqb⟩ : ∃ q, w.heap.size = q := ⟨_, rfl⟩
  replace hI := Aside0.mk (show QB w qb a b c _ from hqb ▸ hI.out)
  rw [hqb] at ⊢
  generalize w.alloc (.cells #[.int .i64 a, .int .i64 b, .int .i64 c] 22) = W0 at hI ⊢
  replace hqb := Aside0.mk hqb
  go_loopw [3, 4] (fun v i wr => QB w qb a b c wr ∧ ((i = .int .i64 0 ∧ v = .string ⟨#[]⟩) ∨ (i = .int .i64 1 ∧ v = .string xa) ∨ (i = .int .i64 2 ∧ v = .string p2) ∨ (i = .int .i64 3 ∧ v = .string p3))) (fun _ i _ => 3 - (RowKit.intOf i).toNat)
  case atStart => exact ⟨hI.out, .inl ⟨rfl, rfl⟩⟩
  case round =>
    clear hI
    obtain ⟨hI, hrel⟩ := hrel
    have x0 : wr.cell? ⟨qb, 0, none⟩ = some (.int .i64 a) := (blk_cell hI.1 0).trans rfl
    have x1 : wr.cell? ⟨qb, 1, none⟩ = some (.int .i64 b) := (blk_cell hI.1 1).trans rfl
    have x2 : wr.cell? ⟨qb, 2, none⟩ = some (.int .i64 c) := (blk_cell hI.1 2).trans rfl
    replace hI := Aside0.mk hI
    rcases hrel with ⟨rfl, rfl⟩ | ⟨rfl, rfl⟩ | ⟨rfl, rfl⟩ | ⟨rfl, rfl⟩
    · by_cases hz : a = 0
      · have ez := Aside0.mk (za.out hz)
        have hb : (a == 0) = true := beq_iff_eq.2 hz
        replace hz := Aside0.mk hz
        go_wp2_with fail
        go_roundw
        case rel => exact ⟨hI.out, .inr (.inl ⟨rfl, by rw [← e1.out, ez.out]⟩)⟩
        case measure => simp [RowKit.intOf]
      · have hb : (a == 0) = false := beq_eq_false_iff_ne.2 hz
        have HC := Aside0.mk (ca.out hz)
        replace hz := Aside0.mk hz
        go_wp2_with (go_at_call 26; refine (HC.out _).mono ?_; rintro e w1 ⟨rfl, hb1⟩; have hI1 := Aside0.mk (hI.out.keep hb1); clear hb1)
        go_roundw
        case rel => exact ⟨hI1.out, .inr (.inl ⟨rfl, by rw [e1.out]⟩)⟩
        case measure => simp [RowKit.intOf]
    · by_cases hz : b = 0
      · have ez := Aside0.mk (zb.out hz)
        have hb : (b == 0) = true := beq_iff_eq.2 hz
        replace hz := Aside0.mk hz
        go_wp2_with fail
        go_roundw
        case rel => exact ⟨hI.out, .inr (.inr (.inl ⟨rfl, by rw [← e2.out, ez.out]⟩))⟩
        case measure => simp [RowKit.intOf]
      · have hb : (b == 0) = false := beq_eq_false_iff_ne.2 hz
        have HC := Aside0.mk (cb.out hz)
        replace hz := Aside0.mk hz
        go_wp2_with (go_at_call 26; refine (HC.out _).mono ?_; rintro e w1 ⟨rfl, hb1⟩; have hI1 := Aside0.mk (hI.out.keep hb1); clear hb1)
        go_roundw
        case rel => exact ⟨hI1.out, .inr (.inr (.inl ⟨rfl, by rw [← e2.out]⟩))⟩
        case measure => simp [RowKit.intOf]
    · by_cases hz : c = 0
      · have ez := Aside0.mk (zc.out hz)
        have hb : (c == 0) = true := beq_iff_eq.2 hz
        replace hz := Aside0.mk hz
        go_wp2_with fail
        go_roundw
        case rel => exact ⟨hI.out, .inr (.inr (.inr ⟨rfl, by rw [← e3.out, ez.out]⟩))⟩
        case measure => simp [RowKit.intOf]
      · have hb : (c == 0) = false := beq_eq_false_iff_ne.2 hz
        have HC := Aside0.mk (cc.out hz)
        replace hz := Aside0.mk hz
        go_wp2_with (go_at_call 26; refine (HC.out _).mono ?_; rintro e w1 ⟨rfl, hb1⟩; have hI1 := Aside0.mk (hI.out.keep hb1); clear hb1)
        go_roundw
        case rel => exact ⟨hI1.out, .inr (.inr (.inr ⟨rfl, by rw [← e3.out]⟩))⟩
        case measure => simp [RowKit.intOf]
    · go_wp2_with fail
      go_ret
      exact ⟨rfl, hI.out.2.1⟩
end Go.Proofs.YtfgnpplnjgjjkaaDoor.T
