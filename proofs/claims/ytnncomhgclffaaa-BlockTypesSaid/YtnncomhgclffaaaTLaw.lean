/- The walk of the law BlockTypes. -/
import Derived.Test.YtnncomhgclffaaaTSt
import Derived.Test.YtnncomhgclffaaaBAwake
import Derived.Deep.CutBlock
import Derived.Laws.OwnMore
namespace Go.Proofs.Ytnncomhgclffaaa.BT
open Go.RowKit Go.Proofs.YtnncomhgclffaaaW.PrintWords Go.Proofs.YtnncomhgclffaaaL Go.Proofs.Ytnncomhgclffaaa.LL Go.Proofs.Ytnncomhgclffaaa.LT

theorem eq60 (n : Nat) (a b c d e f : Int) (w : World) : (Op.equalIn (n + 2) 60 (.agg #[.int .i64 a, .int .i64 b, .int .i64 c]) (.agg #[.int .i64 d, .int .i64 e, .int .i64 f])).run Try.prog w = .ok (decide ((a, b, c) = (d, e, f))) w := by
  have u3 := Try.underlying3
  have a3 := Try.isAgg3
  have z3 := Try.sizeOf3
  rw [Op.equalIn]
  simp only [Sem.run_bind, run_underlying Try.underlying60, Result.andThen_ok]
  simp only [Std.Legacy.Range.forIn_eq_forIn_range', Std.Legacy.Range.size, Nat.sub_zero, Nat.add_sub_cancel, Nat.div_one, List.range'_succ, List.range'_zero, List.forIn_cons, List.forIn_nil]
  go_simp
  by_cases h1 : a = d <;> by_cases h2 : b = e <;> by_cases h3 : c = f <;> simp [h1, h2, h3]
attribute [local go_sem high] eq60

theorem str_eq (a b : ByteArray) : (a.toList == b.toList) = decide (a = b) := by
  rw [Bool.eq_iff_iff, beq_iff_eq, decide_eq_true_iff, ByteArray.toList_eq, ByteArray.toList_eq]
  constructor
  · intro h
    cases a; cases b
    congr 1
    exact Array.toList_inj.1 h
  · rintro rfl; rfl

/-- A triple, a text in a row that came in. -/
def opT (x : P2) (cs : List Value) : Prop := cs = [.int .i64 x.1, .int .i64 x.2.1, .int .i64 x.2.2] ∧ Good x
def opV (x : ByteArray) (cs : List Value) : Prop := cs = [.string x] ∧ x.size ≤ maxLen

theorem addr_of {w : World} {ad : Addr} {v : Value} (h : w.cell? ad = some v) : ad.spot = none := by
  simp only [World.cell?] at h
  split at h
  · split at h
    · cases h
    · rename_i hn
      simpa using hn
  · cases h
theorem add_plain (b off n : Nat) : (⟨b, off, none⟩ : Addr).add n = ⟨b, off + n, none⟩ := by
  unfold Addr.add
  split
  · rename_i e; subst e; rfl
  · rfl
theorem opT_cells {w : World} {A : Option Addr} {len : Nat} {xs : List P2} (hr : ReadsRow opT 3 w A len xs) {k : Nat} (hk : k < len) :
    ∃ (b off : Nat) (hkx : k < xs.length) (x : P2), A = some ⟨b, off, none⟩ ∧ xs[k] = x ∧ Good x ∧ b < w.heap.size ∧ w.cell? ⟨b, off + k * 3, none⟩ = some (.int .i64 x.1) ∧ w.cell? ⟨b, off + k * 3 + 1, none⟩ = some (.int .i64 x.2.1) ∧ w.cell? ⟨b, off + k * 3 + 2, none⟩ = some (.int .i64 x.2.2) := by
  obtain ⟨hl, _, hread⟩ := hr
  obtain ⟨ad, rfl, hc⟩ := hread (by omega)
  obtain ⟨c0, _, ⟨rfl, _⟩, h0⟩ := hc 0 xs[0] (List.getElem?_eq_getElem (by omega))
  obtain ⟨c, _, ⟨rfl, hg⟩, h⟩ := hc k xs[k] (List.getElem?_eq_getElem (by omega))
  have hs : ad.spot = none := by
    have h1 := addr_of (h0 0 _ rfl)
    simpa [Addr.add] using h1
  obtain ⟨b, off, sp⟩ := ad
  dsimp only at hs
  subst hs
  have e0 := h 0 _ rfl
  have e1 := h 1 _ rfl
  have e2 := h 2 _ rfl
  rw [add_plain] at e0 e1 e2
  exact ⟨b, off, by omega, _, rfl, rfl, hg, World.block_lt_of_cell? w _ e0, e0, e1, e2⟩
theorem opV_cells {w : World} {A : Option Addr} {len : Nat} {xs : List ByteArray} (hr : ReadsRow opV 1 w A len xs) {k : Nat} (hk : k < len) :
    ∃ (b off : Nat) (hkx : k < xs.length) (x : ByteArray), A = some ⟨b, off, none⟩ ∧ xs[k] = x ∧ x.size ≤ maxLen ∧ b < w.heap.size ∧ w.cell? ⟨b, off + k, none⟩ = some (.string x) := by
  obtain ⟨hl, _, hread⟩ := hr
  obtain ⟨ad, rfl, hc⟩ := hread (by omega)
  obtain ⟨c0, _, ⟨rfl, _⟩, h0⟩ := hc 0 xs[0] (List.getElem?_eq_getElem (by omega))
  obtain ⟨c, _, ⟨rfl, hg⟩, h⟩ := hc k xs[k] (List.getElem?_eq_getElem (by omega))
  have hs : ad.spot = none := by
    have h1 := addr_of (h0 0 _ rfl)
    simpa [Addr.add] using h1
  obtain ⟨b, off, sp⟩ := ad
  dsimp only at hs
  subst hs
  have e0 := h 0 _ rfl
  rw [add_plain, Nat.mul_one, Nat.add_zero] at e0
  exact ⟨b, off, by omega, _, rfl, rfl, hg, World.block_lt_of_cell? w _ e0, e0⟩

/-- Each once, in the order in which they come. -/
noncomputable def once (l : List P2) : List P2 := l.foldl openK []
theorem once_snoc (l : List P2) (x : P2) : once (l ++ [x]) = openK (once l) x := by simp [once]
theorem mem_openK {ks : List P2} {k x : P2} : x ∈ openK ks k ↔ x ∈ ks ∨ x = k := by
  unfold openK
  split
  · rename_i h
    exact ⟨.inl, fun h' => by rcases h' with h' | rfl; exact h'; exact h⟩
  · simp
theorem mem_fold (x : P2) : ∀ (l acc : List P2), x ∈ l.foldl openK acc ↔ x ∈ acc ∨ x ∈ l
  | [], acc => by simp
  | y :: l, acc => by rw [List.foldl_cons, mem_fold x l, mem_openK, List.mem_cons, or_assoc]
theorem mem_once (l : List P2) (x : P2) : x ∈ once l ↔ x ∈ l := by
  unfold once
  rw [mem_fold]
  simp
noncomputable def addV (ks : List ByteArray) (k : ByteArray) : List ByteArray := if k ∈ ks then ks else ks ++ [k]
noncomputable def onceV (l : List ByteArray) : List ByteArray := l.foldl addV []
theorem onceV_snoc (l : List ByteArray) (x : ByteArray) : onceV (l ++ [x]) = if x ∈ onceV l then onceV l else onceV l ++ [x] := by
  unfold onceV
  rw [List.foldl_append]
  rfl
theorem mem_addV {ks : List ByteArray} {k x : ByteArray} : x ∈ addV ks k ↔ x ∈ ks ∨ x = k := by
  unfold addV
  split
  · rename_i h
    exact ⟨.inl, fun h' => by rcases h' with h' | rfl; exact h'; exact h⟩
  · simp
theorem mem_foldV (x : ByteArray) : ∀ (l acc : List ByteArray), x ∈ l.foldl addV acc ↔ x ∈ acc ∨ x ∈ l
  | [], acc => by simp
  | y :: l, acc => by rw [List.foldl_cons, mem_foldV x l, mem_addV, List.mem_cons, or_assoc]
theorem mem_onceV (l : List ByteArray) (x : ByteArray) : x ∈ onceV l ↔ x ∈ l := by
  unfold onceV
  rw [mem_foldV]
  simp
theorem sumOf_const {ks : List P2} {vs : P2 → List ByteArray} {m : Nat} (h : ∀ k ∈ ks, (vs k).length = m) : sumOf ks vs = ks.length * m := by
  induction ks with
  | nil => simp [sumOf]
  | cons k ks ih =>
    rw [sumOf_cons, h k (by simp), ih (fun x hx => h x (by simp [hx])), List.length_cons, Nat.succ_mul]
    omega

theorem Did.base {w0 w W : World} {bb N B : Nat} {ks : List P2} {vs : P2 → List ByteArray} {r : Value} {e : Ending} (h : Did w bb (fun b => B ≤ b) r ks vs N e W) (hB : B ≤ w.heap.size) (hb : Below B w0 w) :
    e = .returned r ∧ Blk W bb (fun b => B ≤ b) ks vs N ∧ Below B w0 W :=
  ⟨h.1, h.2.1.mono (fun b x _ => by rcases x with x | x <;> omega), h.2.2.below hb hB (fun _ x => x)⟩

theorem mem_take_succ {α : Type} (l : List α) (j : Nat) (hj : j < l.length) (x : α) : x ∈ l.take (j + 1) ↔ x ∈ l.take j ∨ l[j] = x := by
  rw [List.take_succ_eq_append_getElem hj, List.mem_append, List.mem_singleton]
  exact ⟨fun h => h.imp id Eq.symm, fun h => h.imp id Eq.symm⟩

/-- The blockers behind the first j owners' calls of the i-th blocker. -/
def Half (xs : List P2) (ks : List P2) (vs : P2 → List ByteArray) (ys : List ByteArray) (i j : Nat) : Prop := ∀ k ∈ ks, vs k = if k ∈ xs.take j then onceV (ys.take (i + 1)) else onceV (ys.take i)
theorem half_step {xs ks : List P2} {vs : P2 → List ByteArray} {ys : List ByteArray} {i j : Nat} (h : Half xs ks vs ys i j) (hi : i < ys.length) (hj : j < xs.length) (hks : xs[j] ∈ ks) : Half xs ks (blkV ks vs xs[j] ys[i]) ys i (j + 1) := by
  intro k hk
  have hk1 := h k hk
  have hx1 := h _ hks
  have e1 : onceV (ys.take (i + 1)) = if ys[i] ∈ onceV (ys.take i) then onceV (ys.take i) else onceV (ys.take i) ++ [ys[i]] := by
    rw [List.take_succ_eq_append_getElem hi, onceV_snoc]
  have hyin : ys[i] ∈ onceV (ys.take (i + 1)) := by
    rw [mem_onceV, mem_take_succ _ _ hi]
    exact .inr rfl
  have em : k ∈ xs.take (j + 1) ↔ k ∈ xs.take j ∨ k = xs[j] := by
    rw [mem_take_succ _ _ hj]
    exact ⟨fun h => h.imp id Eq.symm, fun h => h.imp id Eq.symm⟩
  by_cases hold : xs[j] ∈ xs.take j
  · rw [if_pos hold] at hx1
    have : blkV ks vs xs[j] ys[i] = vs := by
      unfold blkV
      rw [if_neg]
      rintro ⟨_, h2⟩
      exact h2 (by rw [hx1]; exact hyin)
    rw [this, hk1]
    have : (k ∈ xs.take (j + 1)) ↔ (k ∈ xs.take j) := by
      rw [em]
      exact ⟨fun q => by rcases q with q | rfl; exact q; exact hold, .inl⟩
    simp only [this]
  · rw [if_neg hold] at hx1
    by_cases hin : ys[i] ∈ onceV (ys.take i)
    · rw [if_pos hin] at e1
      have : blkV ks vs xs[j] ys[i] = vs := by
        unfold blkV
        rw [if_neg]
        rintro ⟨_, h2⟩
        exact h2 (by rw [hx1]; exact hin)
      rw [this, hk1, e1]
      simp
    · rw [if_neg hin] at e1
      have : blkV ks vs xs[j] ys[i] = upd vs xs[j] (vs xs[j] ++ [ys[i]]) := by
        unfold blkV
        rw [if_pos]
        exact ⟨hks, by rw [hx1]; exact hin⟩
      rw [this]
      by_cases e : k = xs[j]
      · subst e
        rw [upd_same, hx1, ← e1, if_pos (em.2 (.inr rfl))]
      · rw [upd_other _ e, hk1]
        have : (k ∈ xs.take (j + 1)) ↔ (k ∈ xs.take j) := by
          rw [em]
          exact ⟨fun q => q.resolve_right e, .inl⟩
        simp only [this]

set_option maxHeartbeats 4000000 in
set_option maxRecDepth 100000 in
theorem types_walk (A B : Option Addr) (la ca lb cb : Nat) (xs : List P2) (ys : List ByteArray) (w : World) (hca : la ≤ ca) (hcb : lb ≤ cb) (hrx : ReadsRow opT 3 w A la xs) (hry : ReadsRow opV 1 w B lb ys) :
    Calls Try.prog 13 #[.slice A la ca, .slice B lb cb] w fun e w' => e = .returned (.bool true) ∧ Below w.heap.size w w' := by
  have hla : la ≤ 9223372036854775807 := hrx.2.1
  have hlb : lb ≤ 9223372036854775807 := hry.2.1
  have HX := Aside0.mk hrx
  have HY := Aside0.mk hry
  clear hrx hry
  by_cases hbig : 30 < la
  · go_enter Try.func13, Try.ntmps13
    go_wp2_with (first | (go_at_call 63; refine (new_did _).mono ?_; rintro e w1 ⟨bb, rfl, h1, b1⟩; replace b1 := Aside0.mk b1; clear h1) | (go_at_call 64; refine (BI.awake_walk _).mono ?_; rintro e w2 ⟨rfl, b2⟩; replace b2 := Aside0.mk b2))
    go_ret
    exact ⟨rfl, b1.out.trans (b2.out.mono b1.out.size)⟩
  by_cases hbig2 : 30 < lb
  · go_enter Try.func13, Try.ntmps13
    go_wp2_with (first | (go_at_call 63; refine (new_did _).mono ?_; rintro e w1 ⟨bb, rfl, h1, b1⟩; replace b1 := Aside0.mk b1; clear h1) | (go_at_call 64; refine (BI.awake_walk _).mono ?_; rintro e w2 ⟨rfl, b2⟩; replace b2 := Aside0.mk b2))
    go_ret
    exact ⟨rfl, b1.out.trans (b2.out.mono b1.out.size)⟩
  go_enter Try.func13, Try.ntmps13
  go_wp2_with (go_at_call 63; refine (new_did _).mono ?_; rintro e w1 ⟨bb, rfl, h1, b1⟩; replace h1 := Aside0.mk h1; replace b1 := Aside0.mk b1)
  go_loopw [40, 6] (fun i n wr => ∃ q : Nat, i = .int .i64 q ∧ q ≤ la ∧ n = .int .i64 (once (xs.take q)).length ∧ Blk wr bb (fun b => w.heap.size ≤ b) (once (xs.take q)) (fun _ => []) q ∧ Below w.heap.size w wr) (fun i _ _ => la - (intOf i).toNat)
  case atStart => exact ⟨0, rfl, Nat.zero_le _, rfl, h1.out, b1.out⟩
  case round =>
    obtain ⟨q, rfl, hq, rfl, hL, hBel⟩ := hrel
    clear h1 b1
    by_cases hlt : q < la
    · obtain ⟨b, off, hqx, x, rfl, hxe, hxg, hbl, c0, c1, c2⟩ := opT_cells HX.out hlt
      have f0 : wr.cell? ⟨b, off + q * 3, none⟩ = some (.int .i64 x.1) := (hBel.cell (p := ⟨b, off + q * 3, none⟩) hbl).trans c0
      have f1 : wr.cell? ⟨b, off + q * 3 + 1, none⟩ = some (.int .i64 x.2.1) := (hBel.cell (p := ⟨b, off + q * 3 + 1, none⟩) hbl).trans c1
      have f2 : wr.cell? ⟨b, off + q * 3 + 2, none⟩ = some (.int .i64 x.2.2) := (hBel.cell (p := ⟨b, off + q * 3 + 2, none⟩) hbl).trans c2
      clear c0 c1 c2
      have hL2 := Aside0.mk (hL.below ((Below.refl _ _).alloc (Nat.le_refl _) (.cells #[.int .i64 x.1, .int .i64 x.2.1, .int .i64 x.2.2] 60)))
      have hB2 := Aside0.mk (hBel.alloc hBel.size (.cells #[.int .i64 x.1, .int .i64 x.2.1, .int .i64 x.2.2] 60))
      have hbx := Aside0.mk (blk_new wr (.cells #[.int .i64 x.1, .int .i64 x.2.1, .int .i64 x.2.2] 60))
      have hin := Aside0.mk (show la = xs.length from HX.out.1.symm)
      replace hxe := Aside0.mk hxe
      replace hL := Aside0.mk hL
      replace hBel := Aside0.mk hBel
      go_wp2_with fail
      generalize wr.alloc (.cells #[.int .i64 x.1, .int .i64 x.2.1, .int .i64 x.2.2] 60) = W2 at hL2 hB2 hbx ⊢
      generalize wr.heap.size = n at hbx ⊢
      clear hL hBel f0 f1 f2
      go_loopw [49, 9] (fun j had wq => ∃ p : Nat, j = .int .i64 p ∧ p ≤ q ∧ had = .bool (decide (x ∈ xs.take p)) ∧ Below W2.heap.size W2 wq) (fun j _ _ => q - (intOf j).toNat)
      case atStart => exact ⟨0, rfl, Nat.zero_le _, by simp, Below.refl _ _⟩
      case round =>
        obtain ⟨p, rfl, hp, rfl, hBp⟩ := hrel
        have hxw : wr.heap[n]? = some (.cells #[.int .i64 x.1, .int .i64 x.2.1, .int .i64 x.2.2] 60 (0, 0)) := (hBp.block n (blk_lt hbx.out)).trans hbx.out
        have d0 := (blk_cell hxw 0).trans (show _ = some (Value.int .i64 x.1) from rfl)
        have d1 := (blk_cell hxw 1).trans (show _ = some (Value.int .i64 x.2.1) from rfl)
        have d2 := (blk_cell hxw 2).trans (show _ = some (Value.int .i64 x.2.2) from rfl)
        have g0 : ∀ o, (wr.alloc o).cell? ⟨n, 0, none⟩ = some (Value.int .i64 x.1) := fun o => (World.cell?_of_block (Below.heap_alloc wr o n (blk_lt hxw))).trans d0
        have g1 : ∀ o, (wr.alloc o).cell? ⟨n, 1, none⟩ = some (Value.int .i64 x.2.1) := fun o => (World.cell?_of_block (Below.heap_alloc wr o n (blk_lt hxw))).trans d1
        have g2 : ∀ o, (wr.alloc o).cell? ⟨n, 2, none⟩ = some (Value.int .i64 x.2.2) := fun o => (World.cell?_of_block (Below.heap_alloc wr o n (blk_lt hxw))).trans d2
        replace hxw := Aside0.mk hxw
        by_cases hpl : p < q
        · obtain ⟨b', off', hpx, y, hbe, hye, hyg, _, c0, c1, c2⟩ := opT_cells HX.out (k := p) (by omega)
          obtain ⟨rfl, rfl⟩ : b' = b ∧ off' = off := by simpa using hbe.symm
          have hbw : b' < w.heap.size := hbl
          have hBq := hB2.out.trans (hBp.mono hB2.out.size)
          have f0 : wr.cell? ⟨b', off' + p * 3, none⟩ = some (.int .i64 y.1) := (hBq.cell (p := ⟨b', off' + p * 3, none⟩) hbw).trans c0
          have f1 : wr.cell? ⟨b', off' + p * 3 + 1, none⟩ = some (.int .i64 y.2.1) := (hBq.cell (p := ⟨b', off' + p * 3 + 1, none⟩) hbw).trans c1
          have f2 : wr.cell? ⟨b', off' + p * 3 + 2, none⟩ = some (.int .i64 y.2.2) := (hBq.cell (p := ⟨b', off' + p * 3 + 2, none⟩) hbw).trans c2
          have hms := mem_take_succ xs p hpx x
          rw [hye] at hms
          replace hms := Aside0.mk hms
          replace hye := Aside0.mk hye
          replace hBp := Aside0.mk hBp
          clear c0 c1 c2 hBq hbe
          by_cases hin : x ∈ xs.take p
          · rw [decide_eq_true hin]
            replace hin := Aside0.mk hin
            go_wp2_with fail
            go_roundw
            case rel => exact ⟨p + 1, by go_num, by omega, by rw [decide_eq_true (hms.out.2 (.inl hin.out))], hBp.out.alloc hBp.out.size _⟩
            case measure => simp [intOf]; omega
          · rw [decide_eq_false hin]
            replace hin := Aside0.mk hin
            have n0 : wr.heap.size ≠ n := by have := blk_lt hxw.out; omega
            go_wp2_with fail
            go_roundw
            case rel => exact ⟨p + 1, by go_num, by omega, by
              have e : (x ∈ xs.take (p + 1)) ↔ (x.1 = y.1 ∧ x.2.1 = y.2.1 ∧ x.2.2 = y.2.2) := by
                rw [hms.out]
                exact ⟨fun h => by rw [h.resolve_left hin.out]; exact ⟨rfl, rfl, rfl⟩, fun ⟨h1, h2, h3⟩ => .inr (Prod.ext h1.symm (Prod.ext h2.symm h3.symm))⟩
              congr 1
              rw [Bool.eq_iff_iff]
              simp only [Bool.and_eq_true, decide_eq_true_iff]
              exact e.symm, hBp.out.alloc hBp.out.size _⟩
            case measure => simp [intOf]; omega
        · obtain rfl : p = q := by omega
          have hO := Aside0.mk (open_did (hL2.out.below hBp) x hxg (by omega))
          have hB3 := Aside0.mk (hB2.out.trans (hBp.mono hB2.out.size))
          have hmo := mem_once (xs.take p) x
          have hos := once_snoc (xs.take p) x
          rw [← hxe.out, ← List.take_succ_eq_append_getElem hqx, hxe.out] at hos
          replace hos := Aside0.mk hos
          replace hBp := Aside0.mk hBp
          unfold tri at hO
          by_cases hin : x ∈ xs.take p
          · have ho2 : openK (once (xs.take p)) x = once (xs.take p) := if_pos (hmo.2 hin)
            rw [show decide (x ∉ once (xs.take p)) = false from decide_eq_false (fun h => h (hmo.2 hin))] at hO
            rw [decide_eq_true hin]
            clear hin hmo
            rw [ho2] at hos hO
            replace ho2 := Aside0.mk ho2
            go_wp2_with (go_at_call 65; refine hO.out.mono ?_; intro e w3 hd; obtain ⟨rfl, hL4, hB4⟩ := hd.base hB3.out.size hB3.out; replace hL4 := Aside0.mk hL4; replace hB4 := Aside0.mk hB4; clear hd)
            go_roundw
            case rel => exact ⟨p + 1, by go_num, by omega, by rw [hos.out], by rw [hos.out]; exact hL4.out, hB4.out⟩
            case measure => simp [intOf]; omega
          · have ho2 : openK (once (xs.take p)) x = once (xs.take p) ++ [x] := if_neg (fun h => hin (hmo.1 h))
            have hlen : (once (xs.take p)).length ≤ p := hL2.out.facts.2.1
            rw [show decide (x ∉ once (xs.take p)) = true from decide_eq_true (fun h => hin (hmo.1 h))] at hO
            rw [decide_eq_false hin]
            clear hin hmo
            rw [ho2] at hos hO
            replace ho2 := Aside0.mk ho2
            go_wp2_with (go_at_call 65; refine hO.out.mono ?_; intro e w3 hd; obtain ⟨rfl, hL4, hB4⟩ := hd.base hB3.out.size hB3.out; replace hL4 := Aside0.mk hL4; replace hB4 := Aside0.mk hB4; clear hd)
            go_roundw
            case rel => exact ⟨p + 1, by go_num, by omega, by rw [hos.out, List.length_append]; go_num, by rw [hos.out]; exact hL4.out, hB4.out⟩
            case measure => simp [intOf]; omega
    · obtain rfl : q = la := by omega
      have hx1 : xs.take q = xs := List.take_of_length_le (by have := HX.out.1; omega)
      rw [hx1] at hL ⊢
      clear hx1 hlt
      have hkl : (once xs).length ≤ 30 := Nat.le_trans hL.facts.2.1 (by omega)
      have hmo := Aside0.mk (mem_once xs)
      have hL0 := Aside0.mk hL
      have hB0 := Aside0.mk hBel
      clear hL hBel
      generalize once xs = ks at hL0 hkl hmo ⊢
      go_wp2_with fail
      go_loopw [72, 12] (fun i m wr => ∃ (p : Nat) (vs : P2 → List ByteArray), i = .int .i64 p ∧ p ≤ lb ∧ m = .int .i64 (onceV (ys.take p)).length ∧ (onceV (ys.take p)).length ≤ p ∧ Blk wr bb (fun b => w.heap.size ≤ b) ks vs (30 + p * 30) ∧ Below w.heap.size w wr ∧ ∀ k ∈ ks, vs k = onceV (ys.take p)) (fun i _ _ => lb - (intOf i).toNat)
      case atStart => exact ⟨0, _, rfl, Nat.zero_le _, rfl, Nat.le_refl _, hL0.out.more (by omega), hB0.out, fun k _ => rfl⟩
      case round =>
        obtain ⟨p, vs, rfl, hp, rfl, hol, hL, hBel, hvs⟩ := hrel
        clear hL0 hB0
        by_cases hpl : p < lb
        · obtain ⟨b, off, hpy, y, rfl, hye, hyg, hbl, c0⟩ := opV_cells HY.out hpl
          have f0 : wr.cell? ⟨b, off + p, none⟩ = some (.string y) := (hBel.cell (p := ⟨b, off + p, none⟩) hbl).trans c0
          replace hL := Aside0.mk hL
          replace hBel := Aside0.mk hBel
          replace hvs := Aside0.mk hvs
          clear c0
          go_wp2_with fail
          go_loopw [81, 15] (fun j had wq => ∃ t : Nat, j = .int .i64 t ∧ t ≤ p ∧ had = .bool (decide (y ∈ ys.take t)) ∧ wr = wq) (fun j _ _ => p - (intOf j).toNat)
          case atStart => exact ⟨0, rfl, Nat.zero_le _, by simp, rfl⟩
          case round =>
            obtain ⟨t, rfl, ht, rfl, rfl⟩ := hrel
            by_cases htl : t < p
            · obtain ⟨b', off', hty, z, hbe, hze, hzg, _, c1⟩ := opV_cells HY.out (k := t) (by omega)
              obtain ⟨rfl, rfl⟩ : b' = b ∧ off' = off := by simpa using hbe.symm
              have hbw : b' < w.heap.size := hbl
              have f1 : wr.cell? ⟨b', off' + t, none⟩ = some (.string z) := (hBel.out.cell (p := ⟨b', off' + t, none⟩) hbw).trans c1
              have hms := mem_take_succ ys t hty y
              rw [hze] at hms
              replace hms := Aside0.mk hms
              replace hze := Aside0.mk hze
              replace hye := Aside0.mk hye
              clear c1 hbe
              by_cases hin : y ∈ ys.take t
              · rw [decide_eq_true hin]
                replace hin := Aside0.mk hin
                go_wp2_with fail
                go_roundw
                case rel => exact ⟨t + 1, by go_num, by omega, by rw [decide_eq_true (hms.out.2 (.inl hin.out))], trivial⟩
                case measure => simp [intOf]; omega
              · rw [decide_eq_false hin]
                replace hin := Aside0.mk hin
                go_wp2_with fail
                go_roundw
                case rel => exact ⟨t + 1, by go_num, by omega, by
                  have e : (y ∈ ys.take (t + 1)) ↔ y = z := by
                    rw [hms.out]
                    exact ⟨fun h => (h.resolve_left hin.out).symm, fun h => .inr h.symm⟩
                  rw [str_eq]
                  congr 1
                  exact decide_eq_decide.2 e.symm, trivial⟩
                case measure => simp [intOf]; omega
            · obtain rfl : t = p := by omega
              have hov := onceV_snoc (ys.take t) y
              rw [← hye, ← List.take_succ_eq_append_getElem hpy, hye] at hov
              have hmv := mem_onceV (ys.take t) y
              have hH : Aside0 (Half xs ks vs ys t 0) := ⟨fun k hk => by rw [hvs.out k hk]; simp⟩
              clear hvs
              by_cases hin : y ∈ ys.take t
              · rw [if_pos (hmv.2 hin)] at hov
                rw [decide_eq_true hin]
                clear hin hmv
                replace hov := Aside0.mk hov
                go_wp2_with fail
                go_loopw [98] (fun j wq => ∃ (r : Nat) (vs' : P2 → List ByteArray), j = .int .i64 r ∧ r ≤ q ∧ Blk wq bb (fun b => w.heap.size ≤ b) ks vs' (30 + t * 30 + r) ∧ Below w.heap.size w wq ∧ Half xs ks vs' ys t r) (fun j _ => q - (intOf j).toNat)
                case atStart => exact ⟨0, vs, rfl, Nat.zero_le _, hL.out, hBel.out, hH.out⟩
                case round =>
                  obtain ⟨r, vs', rfl, hr, hL5, hB5, hH5⟩ := hrel
                  by_cases hrl : r < q
                  · obtain ⟨b', off', hrx, x, hbe, hxe, hxg, hbl2, c0, c1, c2⟩ := opT_cells HX.out hrl
                    subst hbe
                    have f0 : wr.cell? ⟨b', off' + r * 3, none⟩ = some (.int .i64 x.1) := (hB5.cell (p := ⟨b', off' + r * 3, none⟩) hbl2).trans c0
                    have f1 : wr.cell? ⟨b', off' + r * 3 + 1, none⟩ = some (.int .i64 x.2.1) := (hB5.cell (p := ⟨b', off' + r * 3 + 1, none⟩) hbl2).trans c1
                    have f2 : wr.cell? ⟨b', off' + r * 3 + 2, none⟩ = some (.int .i64 x.2.2) := (hB5.cell (p := ⟨b', off' + r * 3 + 2, none⟩) hbl2).trans c2
                    have hbk := Aside0.mk (block_did (hL5.below ((Below.refl _ _).alloc (Nat.le_refl _) (.cells #[.int .i64 x.1, .int .i64 x.2.1, .int .i64 x.2.2] 60))) x y hxg hyg (by omega))
                    have hB6 := Aside0.mk (hB5.alloc hB5.size (.cells #[.int .i64 x.1, .int .i64 x.2.1, .int .i64 x.2.2] 60))
                    have hst := half_step hH5 hpy hrx (by rw [hmo.out]; exact List.getElem_mem hrx)
                    rw [hxe, hye] at hst
                    replace hst := Aside0.mk hst
                    replace hL5 := Aside0.mk hL5
                    replace hB5 := Aside0.mk hB5
                    replace hH5 := Aside0.mk hH5
                    replace hye := Aside0.mk hye
                    replace hxe := Aside0.mk hxe
                    unfold tri at hbk
                    clear c0 c1 c2
                    go_wp2_with (go_at_call 66; refine hbk.out.mono ?_; intro e w3 hd; obtain ⟨rfl, hL6, hB7⟩ := hd.base hB6.out.size hB6.out; replace hL6 := Aside0.mk hL6; replace hB7 := Aside0.mk hB7; clear hd)
                    go_roundw
                    case rel => exact ⟨r + 1, _, by go_num, by omega, hL6.out.more (by omega), hB7.out, hst.out⟩
                    case measure => simp [intOf]; omega
                  · obtain rfl : r = q := by omega
                    replace hL5 := Aside0.mk hL5
                    replace hB5 := Aside0.mk hB5
                    replace hH5 := Aside0.mk hH5
                    replace hye := Aside0.mk hye
                    go_wp2_with fail
                    go_roundw
                    case rel => exact ⟨t + 1, vs', by go_num, by omega, by rw [hov.out], by rw [hov.out]; omega, hL5.out.more (by omega), hB5.out, fun k hk => by
                      have h5 := hH5.out k hk
                      rw [h5, if_pos]
                      rw [List.take_of_length_le (by have := HX.out.1; omega)]
                      exact (hmo.out k).1 hk⟩
                    case measure => simp [intOf]; omega
              · rw [if_neg (fun h => hin (hmv.1 h))] at hov
                rw [decide_eq_false hin]
                clear hin hmv
                replace hov := Aside0.mk hov
                go_wp2_with fail
                go_loopw [98] (fun j wq => ∃ (r : Nat) (vs' : P2 → List ByteArray), j = .int .i64 r ∧ r ≤ q ∧ Blk wq bb (fun b => w.heap.size ≤ b) ks vs' (30 + t * 30 + r) ∧ Below w.heap.size w wq ∧ Half xs ks vs' ys t r) (fun j _ => q - (intOf j).toNat)
                case atStart => exact ⟨0, vs, rfl, Nat.zero_le _, hL.out, hBel.out, hH.out⟩
                case round =>
                  obtain ⟨r, vs', rfl, hr, hL5, hB5, hH5⟩ := hrel
                  by_cases hrl : r < q
                  · obtain ⟨b', off', hrx, x, hbe, hxe, hxg, hbl2, c0, c1, c2⟩ := opT_cells HX.out hrl
                    subst hbe
                    have f0 : wr.cell? ⟨b', off' + r * 3, none⟩ = some (.int .i64 x.1) := (hB5.cell (p := ⟨b', off' + r * 3, none⟩) hbl2).trans c0
                    have f1 : wr.cell? ⟨b', off' + r * 3 + 1, none⟩ = some (.int .i64 x.2.1) := (hB5.cell (p := ⟨b', off' + r * 3 + 1, none⟩) hbl2).trans c1
                    have f2 : wr.cell? ⟨b', off' + r * 3 + 2, none⟩ = some (.int .i64 x.2.2) := (hB5.cell (p := ⟨b', off' + r * 3 + 2, none⟩) hbl2).trans c2
                    have hbk := Aside0.mk (block_did (hL5.below ((Below.refl _ _).alloc (Nat.le_refl _) (.cells #[.int .i64 x.1, .int .i64 x.2.1, .int .i64 x.2.2] 60))) x y hxg hyg (by omega))
                    have hB6 := Aside0.mk (hB5.alloc hB5.size (.cells #[.int .i64 x.1, .int .i64 x.2.1, .int .i64 x.2.2] 60))
                    have hst := half_step hH5 hpy hrx (by rw [hmo.out]; exact List.getElem_mem hrx)
                    rw [hxe, hye] at hst
                    replace hst := Aside0.mk hst
                    replace hL5 := Aside0.mk hL5
                    replace hB5 := Aside0.mk hB5
                    replace hH5 := Aside0.mk hH5
                    replace hye := Aside0.mk hye
                    replace hxe := Aside0.mk hxe
                    unfold tri at hbk
                    clear c0 c1 c2
                    go_wp2_with (go_at_call 66; refine hbk.out.mono ?_; intro e w3 hd; obtain ⟨rfl, hL6, hB7⟩ := hd.base hB6.out.size hB6.out; replace hL6 := Aside0.mk hL6; replace hB7 := Aside0.mk hB7; clear hd)
                    go_roundw
                    case rel => exact ⟨r + 1, _, by go_num, by omega, hL6.out.more (by omega), hB7.out, hst.out⟩
                    case measure => simp [intOf]; omega
                  · obtain rfl : r = q := by omega
                    replace hL5 := Aside0.mk hL5
                    replace hB5 := Aside0.mk hB5
                    replace hH5 := Aside0.mk hH5
                    replace hye := Aside0.mk hye
                    go_wp2_with fail
                    go_roundw
                    case rel => exact ⟨t + 1, vs', by go_num, by omega, by rw [hov.out, List.length_append]; go_num, by rw [hov.out]; rw [List.length_append]; simp; omega, hL5.out.more (by omega), hB5.out, fun k hk => by
                      have h5 := hH5.out k hk
                      rw [h5, if_pos]
                      rw [List.take_of_length_le (by have := HX.out.1; omega)]
                      exact (hmo.out k).1 hk⟩
                    case measure => simp [intOf]; omega
        · obtain rfl : p = lb := by omega
          have hx1 : ys.take p = ys := List.take_of_length_le (by have := HY.out.1; omega)
          rw [hx1] at hvs hol ⊢
          have hsum := sumOf_const (vs := vs) (ks := ks) (m := (onceV ys).length) (fun k hk => by rw [hvs k hk])
          have hmul : (ks.length : Int) * ((onceV ys).length : Int) = (sumOf ks vs : Int) := by rw [hsum]; push_cast; rfl
          have hsm : sumOf ks vs ≤ 10000 := by have := hL.facts.2.2.1; omega
          have hn0 : (0 : Int) ≤ (sumOf ks vs : Int) := by omega
          have hsb : (sumOf ks vs : Int) ≤ 10000 := by omega
          replace hBel := Aside0.mk hBel
          have hb := Aside0.mk (fun (v : ByteArray) (hv : v.size ≤ maxLen) => by_did hL v hv (by omega))
          replace hL := Aside0.mk hL
          replace hsum := Aside0.mk hsum
          clear hx1 hpl
          by_cases hp0 : 0 < p
          · obtain ⟨b, off, hpy, y, rfl, hye, hyg, hbl, c0⟩ := opV_cells HY.out hp0
            have f0 : wr.cell? ⟨b, off, none⟩ = some (.string y) := (hBel.out.cell (p := ⟨b, off, none⟩) hbl).trans c0
            have hall : ks.filter (fun k => decide (y ∈ vs k)) = ks := List.filter_eq_self.2 fun k hk => decide_eq_true (by rw [hvs k hk, mem_onceV, ← hye]; exact List.getElem_mem hpy)
            have hb2 := Aside0.mk (hb.out y hyg)
            rw [hall] at hb2
            replace hye := Aside0.mk hye
            clear hall hb hvs c0
            go_wp2_with (first | (go_at_call 67; refine (len_did hL.out).mono ?_; rintro e w3 ⟨rfl, rfl⟩) | (go_at_call 68; refine (pairs_did hL.out).mono ?_; rintro e w3 ⟨rfl, rfl⟩) | (go_at_call 69; refine hb2.out.mono ?_; rintro e w4 ⟨r, rfl, hown, hb4⟩; obtain ⟨ra, rc, rfl⟩ := owns_form hown; replace hb4 := Aside0.mk hb4; clear hown) | (go_at_call 64; refine (BI.awake_walk _).mono ?_; rintro e w5 ⟨rfl, b5⟩; replace b5 := Aside0.mk b5))
            go_ret
            exact ⟨rfl, hBel.out.trans ((hb4.out.trans (b5.out.mono hb4.out.size)).mono hBel.out.size)⟩
          · obtain rfl : p = 0 := by omega
            clear hb hvs
            go_wp2_with (first | (go_at_call 67; refine (len_did hL.out).mono ?_; rintro e w3 ⟨rfl, rfl⟩) | (go_at_call 68; refine (pairs_did hL.out).mono ?_; rintro e w3 ⟨rfl, rfl⟩) | (go_at_call 64; refine (BI.awake_walk _).mono ?_; rintro e w5 ⟨rfl, b5⟩; replace b5 := Aside0.mk b5))
            go_ret
            exact ⟨rfl, hBel.out.trans (b5.out.mono hBel.out.size)⟩
end Go.Proofs.Ytnncomhgclffaaa.BT
