/- The document's conditions of words. -/
import Derived.Deep.QuietTactic
import Derived.BigQuiet
import Derived.Test.YtkbkkceeolclmaaGreatDoorQ42
import Derived.Test.YtkbkkceeolclmaaGreatDoorQ43
set_option linter.unusedVariables false
set_option linter.unusedSimpArgs false
namespace Go.TX
theorem str_last' (v : List UInt8) (k : UInt8) (n : Nat) (hn : n + 1 = (str v).size) (h : n < (str v).size) : ((((str v)[n]'h).toNat : Int) == (k.toNat : Int)) = decide (v.getLast? = some k) := by
  rw [str_size] at hn
  have hv : v.getLast? = v[n]? := by rw [List.getLast?_eq_getElem?]; congr 1; omega
  have hl : n < v.length := by omega
  rw [Bool.eq_iff_iff, beq_iff_eq, decide_eq_true_iff, hv, List.getElem?_eq_getElem hl]
  have e : ((str v)[n]'h) = v[n] := by simp [str, ByteArray.getElem_eq_getElem_data]
  rw [e]
  constructor
  · intro q
    congr 1
    apply UInt8.toNat_inj.1
    omega
  · intro q
    cases q
    rfl
theorem ne_empty {U : ByteArray} (h : 0 < U.size) : ¬ U = ByteArray.empty := fun e => by rw [e] at h; exact absurd h (by decide)
theorem size_ne {U : ByteArray} (h : 0 < U.size) : ((U.size : Int) == 0) = false := by
  rw [Bool.eq_false_iff]
  intro e
  rw [beq_iff_eq] at e
  omega
theorem idx_last {U : ByteArray} (h : 0 < U.size) : 1 ≤ (U.size : Int) ∧ (U.size : Int) - 1 < (U.size : Int) := by omega
theorem head_cases {U : ByteArray} {u : List UInt8} (h : U = str u) : (U.size = 0 ∧ u.head? ≠ some 40) ∨ (∃ h : 0 < U.size, (((U[0]'h).toNat : Int) != 40) = true ∧ u.head? ≠ some 40) ∨ ∃ h : 0 < U.size, (((U[0]'h).toNat : Int) != 40) = false ∧ u.head? = some 40 := by
  subst h
  by_cases h0 : (str u).size = 0
  · rw [str_size] at h0
    exact .inl ⟨by rw [str_size]; exact h0, by rw [List.length_eq_zero_iff.1 h0]; simp⟩
  · have hp : 0 < (str u).size := by omega
    have := str_head' u 40 hp
    rw [show (((40 : UInt8).toNat : Nat) : Int) = 40 from rfl] at this
    by_cases hu : u.head? = some 40
    · exact .inr (.inr ⟨hp, by unfold bne; rw [this, decide_eq_true hu]; rfl, hu⟩)
    · exact .inr (.inl ⟨hp, by unfold bne; rw [this, decide_eq_false hu]; rfl, hu⟩)
theorem cut_head {U : ByteArray} {u : List UInt8} (h : U = str u) (hu : u.head? = some 40) : U.extract 1 U.size = str u.tail := by
  subst h
  cases u with
  | nil => cases hu
  | cons a t => exact str_cut a t
theorem last_cases (z : List UInt8) : ((str z).size = 0 ∧ z.getLast? ≠ some 41) ∨ (∃ (_ : 0 < (str z).size) (h : (str z).size - 1 < (str z).size), ((((str z)[(str z).size - 1]'h).toNat : Int) != 41) = true ∧ z.getLast? ≠ some 41) ∨ ∃ (_ : 0 < (str z).size) (h : (str z).size - 1 < (str z).size), ((((str z)[(str z).size - 1]'h).toNat : Int) != 41) = false ∧ z.getLast? = some 41 := by
  by_cases h0 : (str z).size = 0
  · rw [str_size] at h0
    exact .inl ⟨by rw [str_size]; exact h0, by rw [List.length_eq_zero_iff.1 h0]; simp⟩
  · have hp : (str z).size - 1 < (str z).size := by omega
    have := str_last' z 41 ((str z).size - 1) (by omega) hp
    rw [show (((41 : UInt8).toNat : Nat) : Int) = 41 from rfl] at this
    by_cases hu : z.getLast? = some 41
    · exact .inr (.inr ⟨by omega, hp, by unfold bne; rw [this, decide_eq_true hu]; rfl, hu⟩)
    · exact .inr (.inl ⟨by omega, hp, by unfold bne; rw [this, decide_eq_false hu]; rfl, hu⟩)
theorem str_init (v : List UInt8) : (str v).extract 0 ((str v).size - 1) = str v.dropLast := by
  apply ByteArray.ext
  rw [str_size]
  simp [str, List.dropLast_eq_take]
theorem pthree_not {ns : List (List UInt8)} {x y z : List UInt8} (h : ¬ ((dashW x).2.head? = some 40 ∧ z.getLast? = some 41)) : pthree ns x y z = none := by
  unfold pthree
  rw [dashW_cut, openW_cut, shutW_cut]
  by_cases c1 : (dashW x).2.head? = some 40
  · rw [if_pos c1, if_neg (fun q => h ⟨c1, q⟩)]
  · rw [if_neg c1]
theorem pthree_D {ns : List (List UInt8)} {x y z : List UInt8} (h1 : (dashW x).2.head? = some 40) (h2 : z.getLast? = some 41) {a b c : Tm} {ia ib ic : Bool} {m1 m2 m3 : List (List UInt8)} (e0 : termD ns (dashW x).2.tail = ((a, ia), m1)) (e1 : termD m1 y = ((b, ib), m2)) (e2 : termD m2 z.dropLast = ((c, ic), m3)) :
    pthree ns x y z = if (ia && ib && ic) = true then some (m3, .mk (dashW x).1 a b c []) else none := by
  unfold pthree
  rw [dashW_cut, openW_cut, shutW_cut, if_pos h1, if_pos h2]
  unfold openW shutW
  rw [if_pos h1, if_pos h2]
  simp only [termD_pterm, e0]
  cases ia with
  | false => simp
  | true =>
    simp only [if_true, e1]
    cases ib with
    | false => simp
    | true =>
      simp only [if_true, e2]
      cases ic with
      | false => simp
      | true => simp
end Go.TX
namespace Go.Proofs.YtkbkkceeolclmaaGreatDoor.X
open Go.RowKit Go.TX Go.Proofs.YtkbkkceeolclmaaGreatDoorW.PrintWords Go.Proofs.YtkbkkceeolclmaaGreatDoorL
attribute [local go_sem] YReg.envOf
abbrev z81k : Obj := .cells #[.int .i64 1, .int .i64 0, .int .i64 0, .int .i64 0, .int .i64 0, .int .i64 0, .int .i64 0, .slice none 0 0] 81
/-- A row of conditions has grown. -/
theorem DRd.grown {w W : World} {r : Nat} {V : Value} {ws ns : List (List UInt8)} {k bad : Int} (h : DRd w r V ws ns k bad) {row : Option Nat} (hg : w.grownBy W row) (hr : ∀ b, row = some b → b ≠ r ∧ ∃ cs : Array Value, w.heap[b]? = some (.cells cs 81 (0, 0))) : DRd W r V ws ns k bad := by
  obtain ⟨U, h1, h2, h3⟩ := h
  have k9 : ∀ (b : Nat) (cs : Array Value), w.heap[b]? = some (.cells cs 9 (0, 0)) → W.heap[b]? = w.heap[b]? := fun b cs e => hg.block b (blk_lt e) fun q => by
    obtain ⟨_, cs2, e2⟩ := hr b q.symm
    rw [e2] at e
    simp at e
  exact ⟨U, (hg.block r (blk_lt h1) (fun q => (hr r q.symm).1 rfl)).trans h1, h2.k9 k9, h3.k9 k9⟩
def placeOf (w : World) (r : Nat) : Nat := match w.cell? ⟨r, 1, none⟩ with | some (.int _ i) => i.toNat | _ => 0
theorem placeOf_of {w : World} {r : Nat} {V : Value} {ws ns : List (List UInt8)} {k : Nat} {bad : Int} (h : DRd w r V ws ns k bad) : placeOf w r = k := by
  obtain ⟨U, h1, _⟩ := h
  unfold placeOf
  rw [(blk_cell h1 1).trans (show _ = some (Value.int .i64 k) from rfl)]
  rfl
/-- The reader, and what has been read. -/
def DS (w W : World) (r : Nat) (V : Value) (ws ns : List (List UInt8)) (k bad : Int) (S : Value) (acc : List Cd) : Prop := BR w.heap.size W S acc ∧ DRd W r V ws ns k bad ∧ Ch w W (fun b => b = r) ∧ r < w.heap.size
section
variable {w W W2 : World} {r g : Nat} {V S : Value} {ws ns ns2 : List (List UInt8)} {k k2 bad bad2 : Int} {acc : List Cd}
theorem DS.call (h : DS w W r V ws ns k bad S acc) (hc : Ch W W2 (fun b => b = r)) (hd : DRd W2 r V ws ns2 k2 bad2) : DS w W2 r V ws ns2 k2 bad2 S acc :=
  ⟨h.1.far fun b hb hl => hc.block b hl (fun q => by have := h.2.2.2; subst q; omega), hd, h.2.2.1.then hc (fun b _ q => q), h.2.2.2⟩
theorem DS.below (h : DS w W r V ws ns k bad S acc) (hb : Below W.heap.size W W2) : DS w W2 r V ws ns k bad S acc := h.call (Ch.of_below hb _) (h.2.1.below hb)
theorem DS.wrong (h : DS w W r V ws ns k bad S acc) (b : Int) : DS w (W.setCell ⟨r, 3, none⟩ (.int .i64 b)) r V ws ns k b S acc := h.call ((Ch.refl W (fun b => b = r)).setCell ⟨r, 3, none⟩ (fun _ => rfl) _) (h.2.1.bad b)
theorem DS.place (h : DS w W r V ws ns k bad S acc) (b : Int) : DS w (W.setCell ⟨r, 1, none⟩ (.int .i64 b)) r V ws ns b bad S acc := h.call ((Ch.refl W (fun b => b = r)).setCell ⟨r, 1, none⟩ (fun _ => rfl) _) (h.2.1.place b)
/-- The reader, and a condition on its way in a box. -/
def DB (Wa W : World) (r : Nat) (V : Value) (ws ns : List (List UInt8)) (k bad : Int) (g : Nat) (n : Int) (a b c : Tm) : Prop := Ch Wa W (fun b => b = r) ∧ DRd W r V ws ns k bad ∧ W.heap[g]? = some (oC evR 81 n a b c (.slice none 0 0)) ∧ Wa.heap.size ≤ g ∧ r < Wa.heap.size
variable {n : Int} {a b c t : Tm}
theorem DB.call (h : DB w W r V ws ns k bad g n a b c) (hc : Ch W W2 (fun b => b = r)) (hd : DRd W2 r V ws ns2 k2 bad2) : DB w W2 r V ws ns2 k2 bad2 g n a b c :=
  ⟨h.1.then hc (fun b _ q => q), hd, (hc.block g (blk_lt h.2.2.1) (fun q => by have := h.2.2.2; omega)).trans h.2.2.1, h.2.2.2⟩
theorem DB.below (h : DB w W r V ws ns k bad g n a b c) (hb : Below W.heap.size W W2) : DB w W2 r V ws ns k bad g n a b c := h.call (Ch.of_below hb _) (h.2.1.below hb)
theorem DB.wrong (h : DB w W r V ws ns k bad g n a b c) (b2 : Int) : DB w (W.setCell ⟨r, 3, none⟩ (.int .i64 b2)) r V ws ns k b2 g n a b c := h.call ((Ch.refl W (fun b => b = r)).setCell ⟨r, 3, none⟩ (fun _ => rfl) _) (h.2.1.bad b2)
theorem DB.place (h : DB w W r V ws ns k bad g n a b c) (b2 : Int) : DB w (W.setCell ⟨r, 1, none⟩ (.int .i64 b2)) r V ws ns b2 bad g n a b c := h.call ((Ch.refl W (fun b => b = r)).setCell ⟨r, 1, none⟩ (fun _ => rfl) _) (h.2.1.place b2)
theorem DB.kind (h : DB w W r V ws ns k bad g n a b c) (m : Int) : DB w (W.setCell ⟨g, 0, none⟩ (.int .i64 m)) r V ws ns k bad g m a b c :=
  ⟨h.1.setCell ⟨g, 0, none⟩ (fun q => by have := h.2.2.2.1; have : g < w.heap.size := q; omega) _, h.2.1.far h.2.2.1 (by decide) (by have := h.2.2.2; omega) 0 _, blk_put h.2.2.1 0 _ rfl, h.2.2.2⟩
theorem DB.two (h : DB w W r V ws ns k bad g n a b c) (q : Nat) (u v : Value) (a2 b2 c2 : Tm) (e : ((#[Value.int .i64 n, evR a.1, .int .i64 a.2, evR b.1, .int .i64 b.2, evR c.1, .int .i64 c.2, .slice none 0 0].setIfInBounds q u).setIfInBounds (q + 1) v) = #[Value.int .i64 n, evR a2.1, .int .i64 a2.2, evR b2.1, .int .i64 b2.2, evR c2.1, .int .i64 c2.2, .slice none 0 0])
    : DB w ((W.setCell ⟨g, q, none⟩ u).setCell ⟨g, q + 1, none⟩ v) r V ws ns k bad g n a2 b2 c2 := by
  have h1 := blk_put h.2.2.1 q u rfl
  have hg : ∀ x, g < w.heap.size → x := fun x q => by have := h.2.2.2.1; omega
  exact ⟨(h.1.setCell ⟨g, q, none⟩ (fun q => hg _ q) _).setCell ⟨g, q + 1, none⟩ (fun q => hg _ q) _, (h.2.1.far h.2.2.1 (by decide) (by have := h.2.2.2; omega) q u).far h1 (by decide) (by have := h.2.2.2; omega) (q + 1) v, blk_put h1 (q + 1) v e, h.2.2.2⟩
end
/-- One condition more. -/
theorem DS.snoc {w W w5 : World} {r m : Nat} {V S v5 : Value} {ws ns : List (List UInt8)} {k bad : Int} {acc : List Cd} {css : List (List Value)} (hcl : css.length = acc.length) (hco : W.ownsRow w.heap.size 81 8 S acc.length css.flatten)
    (hcr : ∀ i (h : i < acc.length), ∃ cs, css[i]? = some cs ∧ cs.length = 8 ∧ Rep evR W (fun b => w.heap.size ≤ b ∧ S.ownBlock ≠ some b) acc[i] cs) (hd : DRd W r V ws ns k bad) (hch : Ch w W (fun b => b = r)) (hr : r < w.heap.size)
    {x : Cd} {cs : List Value} (h8 : cs.length = 8) (hx : Rep evR W (fun b => m ≤ b) x cs) (hm : w.heap.size ≤ m) (hv : ∀ b, S.ownBlock = some b → b < m) (ho5 : w5.ownsRow w.heap.size 81 8 v5 (acc.length + 1) (css.flatten ++ cs)) (hg : W.grownBy w5 S.ownBlock)
    (hf : ∀ b, v5.ownBlock = some b → S.ownBlock = some b ∨ W.heap.size ≤ b) : DS w w5 r V ws ns k bad v5 (acc ++ [x]) :=
  ⟨BR.snoc hcl hco hcr h8 hx hm hv ho5 hg hf, hd.grown hg (fun b e => ⟨by have := (owner_lt hco e).1; omega, own_typed hco b e⟩), hch.grown hg (fun b e hb => by have := (owner_lt hco e).1; omega), hr⟩
/-- What the document's reading leaves. -/
def DCPost (w : World) (r : Nat) (V : Value) (ws : List (List UInt8)) (k0 m0 : Nat) (res : Option (List (List UInt8) × List Cd × List (List UInt8))) (e : Ending) (W : World) : Prop :=
  ∃ (S : Value) (out : List Cd) (k : Nat) (ns : List (List UInt8)) (bad : Int), e = .returned S ∧ DS w W r V ws ns k bad S out ∧ k0 ≤ k ∧ k ≤ ws.length ∧ ns.length + (ws.length - k) ≤ m0 ∧ out.length + (ws.length - k) ≤ ws.length - k0 ∧
    ((res = none ∧ bad = 1) ∨ (bad = 0 ∧ res = some (ns, out, ws.drop k)))
/-- A reader whose words lie so. -/
theorem DRd.form {w : World} {r : Nat} {V : Value} {ws ns : List (List UInt8)} {k bad : Int} (h : DRd w r V ws ns k bad) :
    ∃ A c B d, V = .slice A ws.length c ∧ w.heap[r]? = some (rdO (.slice A ws.length c) (.slice B ns.length d) k bad) ∧ ws.length ≤ c ∧ ∀ j (hj : j < ws.length), ∃ b o, A = some ⟨b, o, none⟩ ∧ w.cell? ⟨b, o + j, none⟩ = some (.string (str (ws[j]'hj))) := by
  obtain ⟨U, h1, hV, hU⟩ := h
  obtain ⟨A, c, rfl, hc, hC⟩ := hV.reads
  obtain ⟨B, d, rfl, _⟩ := hU.reads
  exact ⟨A, c, B, d, rfl, h1, hc, fun j hj => by
    obtain ⟨b, o, e, _, hcell⟩ := kds_at hC hj
    exact ⟨b, o, e, hcell⟩⟩
theorem DRd.cells {w : World} {r : Nat} {V : Value} {ws ns : List (List UInt8)} {k bad : Int} (h : DRd w r V ws ns k bad) : w.cell? ⟨r, 0, none⟩ = some V ∧ w.cell? ⟨r, 1, none⟩ = some (.int .i64 k) ∧ w.cell? ⟨r, 3, none⟩ = some (.int .i64 bad) ∧ w.frozen? ⟨r, 1, none⟩ = false ∧ w.frozen? ⟨r, 3, none⟩ = false := by
  obtain ⟨U, hh, _⟩ := h
  exact ⟨(blk_cell hh 0).trans rfl, (blk_cell hh 1).trans rfl, (blk_cell hh 3).trans rfl, blk_frozen hh 1, blk_frozen hh 3⟩
theorem DRd.word {w : World} {r b o c : Nat} {ws ns : List (List UInt8)} {k bad : Int} (h : DRd w r (.slice (some ⟨b, o, none⟩) ws.length c) ws ns k bad) (j : Nat) (hj : j < ws.length) : w.cell? ⟨b, o + j, none⟩ = some (.string (str ws[j])) := by
  obtain ⟨A, c', B, d, e, _, _, hc⟩ := h.form
  cases e
  obtain ⟨b', o', e, hc⟩ := hc j hj
  cases e
  exact hc
/-- A draw is nothing to the memory. -/
theorem off_drew {w : World} {T : World → Prop} (h : ∀ W, Below w.heap.size w W → T W) (n : Nat) : T (w.drewN n) := h _ (pw_below_drewN (Below.refl _ _) n)
/-- Where a row of names lies. -/
theorem RN.block {w : World} {b n c : Nat} {o : Nat} {ns : List (List UInt8)} (h : RN w (.slice (some ⟨b, o, none⟩) n c) ns) : ∃ cs : Array Value, w.heap[b]? = some (.cells cs 9 (0, 0)) := by
  obtain ⟨P, h⟩ := h
  obtain ⟨_, _, _, q, hq, cs, hc⟩ := (Kd.R_bound h).1 b (by simp [Value.ownBlock])
  have e : q = 9 := by simpa [Kd.string, Kd.scalar] using hq
  subst e
  exact ⟨cs, hc⟩
/-- What a call of the reader's term leaves alone. -/
def GR (r : Nat) (w W : World) : Prop := Ch w W (fun b => b = r) ∧ (r < w.heap.size → W.cell? ⟨r, 0, none⟩ = w.cell? ⟨r, 0, none⟩ ∧ W.cell? ⟨r, 1, none⟩ = w.cell? ⟨r, 1, none⟩)
theorem GR.trans {r : Nat} (a b c : World) (h : GR r a b) (k : GR r b c) : GR r a c :=
  ⟨h.1.then k.1 (fun _ _ q => q), fun q => ⟨(k.2 (Nat.lt_of_lt_of_le q h.1.size)).1.trans (h.2 q).1, (k.2 (Nat.lt_of_lt_of_le q h.1.size)).2.trans (h.2 q).2⟩⟩
theorem GR.of_ext {r : Nat} (a b : World) (h : YReg.Ext a b) : GR r a b := ⟨Ch.of_below h _, fun q => ⟨h.cell (p := ⟨r, 0, none⟩) q, h.cell (p := ⟨r, 1, none⟩) q⟩⟩
theorem ix22 {b o n c j : Nat} (hj : j + 1 < n) (W : World) : (Instr.indexAt 22 (.slice (some ⟨b, o, none⟩) n c) (.int .i64 ((j : Int) + 1))).run Tryz.prog W = .ok (.pointer (some ⟨b, o + (j + 1), none⟩)) W := by
  have h := run_indexAt_slice (P := Tryz.prog) (w := W) 22 ⟨b, o, none⟩ n c .i64 ((j : Int) + 1) (by kernel_rfl)
  rw [if_pos (by omega)] at h
  refine h.trans ?_
  have e : ((j : Int) + 1).toNat = j + 1 := by omega
  have e2 : (sizeOf (Tryz.prog.elem 22)).run Tryz.prog W = .ok 1 W := by kernel_rfl
  rw [e2]
  simp [Addr.add, e, Result.andThen]
theorem wr1 {k : Nat} (h : k ≤ 100000) : IntKind.i64.wrap ((k : Int) + 1) = (k : Int) + 1 := by
  simp only [IntKind.wrap_i64]
  omega
/-- A term that the reader gave. -/
def IsT (r : Nat) (V : Value) (ws ns : List (List UInt8)) (k bad : Int) (t : Tm) (u : Value) (W : World) : Prop := u = .agg #[evR t.1, .int .i64 t.2] ∧ DRd W r V ws ns k bad
theorem IsT.up {r : Nat} {V : Value} {ws ns : List (List UInt8)} {k bad : Int} {t : Tm} : ∀ u w w', IsT r V ws ns k bad t u w → YReg.Ext w w' → IsT r V ws ns k bad t u w' := fun _ _ _ h hb => ⟨h.1, h.2.below hb⟩
attribute [local go_sem high] ia790 ia791 ia792
set_option maxRecDepth 100000 in
set_option maxHeartbeats 8000000 in
theorem dconds_walk {r : Nat} {V : Value} {ws : List (List UInt8)} (hwl : ∀ x ∈ ws, x.length ≤ 1000) (hws : ws.length ≤ 2000) (m : Nat) : ∀ (n : Nat) (w : World) (ns : List (List UInt8)) (k : Nat) (inner : Bool), n ≤ m → k ≤ ws.length → ws.length - k < n → DRd w r V ws ns k 0 → ns.length + (ws.length - k) ≤ 20000 →
    Calls Tryz.prog 41 #[.pointer (some ⟨r, 0, none⟩), .int .i64 (evI inner)] w (DCPost w r V ws k (ns.length + (ws.length - k)) (pconds n inner (ws.drop k) ns)) := by
  induction m with
  | zero => intro n w ns k inner hn hk hl; omega
  | succ m ih =>
    intro n w ns k inner hn hk hl hrd hbig
    obtain ⟨i0, hi, hz0, hz1, hz2⟩ := info_parts info81
    replace hi := Aside0.mk hi
    replace hz0 := Aside0.mk hz0
    have hzz0 := hz0
    replace hz1 := Aside0.mk hz1
    replace hz2 := Aside0.mk hz2
    have hmax : 1000000 ≤ maxLen := by decide
    replace hwl := Aside0.mk hwl
    obtain ⟨res, hres⟩ : ∃ q, pconds n inner (ws.drop k) ns = q := ⟨_, rfl⟩
    have hrw : r < w.heap.size := by obtain ⟨U, h1, _⟩ := hrd; exact blk_lt h1
    rw [hres]
    have h0 : Aside0 (DS w w r V ws ns k 0 (.slice none 0 0) []) := ⟨BR.nil _ _, hrd, Ch.refl _ _, hrw⟩
    obtain ⟨A, c, B, d, rfl, -, hc, -⟩ := hrd.form
    replace hres := Aside0.mk hres
    clear hrd hrw
    go_enter Tryz.func41, Tryz.ntmps41
    go_upto_region 2 with fail
    go_loopw [5] (fun S wr => ∃ (acc : List Cd) (k1 : Nat) (ns1 : List (List UInt8)) (bad : Int), DS w wr r (.slice A ws.length c) ws ns1 k1 bad S acc ∧ k ≤ k1 ∧ k1 ≤ ws.length ∧ ns1.length + (ws.length - k1) ≤ ns.length + (ws.length - k) ∧ acc.length + (ws.length - k1) ≤ ws.length - k ∧ ((res = none ∧ bad = 1) ∨ (bad = 0 ∧ ∃ j, ws.length - k1 < j ∧ j ≤ n ∧ res = pre acc (pconds j inner (ws.drop k1) ns1)))) (fun _ wr => ws.length - placeOf wr r)
    case atStart => exact ⟨[], k, ns, 0, h0.out, Nat.le_refl _, hk, Nat.le_refl _, by simp, .inr ⟨rfl, n, hl, Nat.le_refl _, by rw [pre_nil, hres.out]⟩⟩
    case round =>
      obtain ⟨acc, k1, ns1, bad, hds, hkk, hk1, hn1, ha1, hcase⟩ := hrel
      clear h0
      have hpl := Aside0.mk (placeOf_of hds.2.1)
      obtain ⟨A6, c6, rfl⟩ := hds.1.form
      obtain ⟨A', c', B1, d1, e, -, -, hcells⟩ := hds.2.1.form
      cases e
      obtain ⟨r0, r1, r3, f1, f3⟩ := hds.2.1.cells
      replace hds := Aside0.mk hds
      replace hcells := Aside0.mk hcells
      rcases hcase with ⟨hnone, rfl⟩ | ⟨rfl, j, hj, hjn, hrk⟩
      · replace hnone := Aside0.mk hnone
        go_wp2
        go_ret
        exact ⟨_, acc, k1, ns1, 1, rfl, hds.out, hkk, hk1, hn1, ha1, .inl ⟨hnone.out, rfl⟩⟩
      obtain ⟨j, rfl⟩ : ∃ q, j = q + 1 := ⟨j - 1, by omega⟩
      replace hrk := Aside0.mk hrk
      by_cases hend : k1 = ws.length
      · subst hend
        go_upto_region 4 with (go_quiet (fail))
        clear r0 r1 r3 f1 f3
        refine off_drew (w := wr) (T := fun W => Code.wp _ _ _ _ W) (fun W hq => ?_) _
        replace hds := Aside0.mk (hds.out.below hq)
        obtain ⟨r0, r1, r3, f1, f3⟩ := hds.out.2.1.cells
        have hds2 := Aside0.mk (hds.out.wrong (evI inner))
        clear hq
        go_wp2
        go_ret
        refine ⟨_, acc, ws.length, ns1, evI inner, rfl, hds2.out, hkk, hk1, hn1, ha1, ?_⟩
        rw [hrk.out, List.drop_length]
        cases inner with
        | true => exact .inl ⟨by simp [pconds, pre], rfl⟩
        | false => exact .inr ⟨rfl, by simp [pconds, pre]⟩
      have hne : ((k1 : Int) == (ws.length : Int)) = false := by simp; omega
      have hlt : k1 < ws.length := by omega
      obtain ⟨b, o, rfl, hx⟩ := hcells.out k1 hlt
      have hxl : ws.drop k1 = ws[k1] :: ws.drop (k1 + 1) := List.drop_eq_getElem_cons hlt
      have hxw := hwl.out _ (List.getElem_mem hlt)
      obtain ⟨x, hxe⟩ : ∃ x, ws[k1] = x := ⟨_, rfl⟩
      rw [hxe] at hxl hxw hx
      replace hxe := Aside0.mk hxe
      rw [hxl] at hrk
      clear hxl
      go_upto_region 6 with (go_quiet (fail))
      clear r0 r1 r3 f1 f3 hx
      refine off_drew (w := wr) (T := fun W => Code.wp _ _ _ _ W) (fun Wp hq => ?_) _
      replace hds := Aside0.mk (hds.out.below hq)
      obtain ⟨r0, r1, r3, f1, f3⟩ := hds.out.2.1.cells
      have hx := hds.out.2.1.word k1 hlt
      rw [hxe.out] at hx
      clear hq hcells
      go_upto_region 7 with (go_quiet (fail))
      clear r0 r1 r3 f1 f3 hx
      refine off_drew (w := Wp) (T := fun W => Code.wp _ _ _ _ W) (fun Wq hq => ?_) _
      replace hds := Aside0.mk (hds.out.below hq)
      obtain ⟨r0, r1, r3, f1, f3⟩ := hds.out.2.1.cells
      clear hq
      clear Wp
      have hp1 := Aside0.mk (show ((k1 : Int) + 1) = ((k1 + 1 : Nat) : Int) by omega)
      by_cases h125 : x = [125]
      · subst h125
        cases inner with
        | true =>
          rw [show evI true = 1 from rfl]
          go_upto_region 9 with fail
          have hd2 := Aside0.mk (hds.out.place ((k1 : Int) + 1))
          rw [hp1.out] at hd2 ⊢
          clear r0 r1 r3 f1 f3 hp1
          generalize Wq.setCell ⟨r, 1, none⟩ (.int .i64 ((k1 + 1 : Nat) : Int)) = W2 at hd2 ⊢
          go_wp2
          go_ret
          exact ⟨_, acc, k1 + 1, ns1, 0, rfl, hd2.out, by omega, by omega, by omega, by omega, .inr ⟨rfl, by rw [hrk.out]; simp [pconds, pre]⟩⟩
        | false =>
          rw [show evI false = 0 from rfl]
          go_upto_region 9 with fail
          have hd2 := Aside0.mk (hds.out.place ((k1 : Int) + 1))
          rw [hp1.out] at hd2 ⊢
          clear r0 r1 r3 f1 f3 hp1
          generalize Wq.setCell ⟨r, 1, none⟩ (.int .i64 ((k1 + 1 : Nat) : Int)) = W2 at hd2 ⊢
          obtain ⟨r0, r1, r3, f1, f3⟩ := hd2.out.2.1.cells
          have hd3 := Aside0.mk (hd2.out.wrong 1)
          go_wp2
          go_ret
          exact ⟨_, acc, k1 + 1, ns1, 1, rfl, hd3.out, by omega, by omega, by omega, by omega, .inl ⟨by rw [hrk.out]; simp [pconds, pre], rfl⟩⟩
      · by_cases h45 : x = [45, 123]
        · subst h45
          go_upto_region 14 with fail
          have hd2 := Aside0.mk (hds.out.place ((k1 : Int) + 1))
          rw [hp1.out] at hd2 ⊢
          clear r0 r1 r3 f1 f3 hp1
          generalize Wq.setCell ⟨r, 1, none⟩ (.int .i64 ((k1 + 1 : Nat) : Int)) = W2 at hd2 ⊢
          have hcall := ih j W2 ns1 (k1 + 1) true (by omega) (by omega) (by omega) hd2.out.2.1 (by omega)
          rw [show evI true = 1 from rfl] at hcall
          replace hcall := Aside0.mk hcall
          have hj1 : acc.length + 1 ≤ maxLen := by omega
          have hj2 : (acc.length + 1) * 80 ≤ 140737488355328 := by omega
          have hw2 := Aside0.mk hd2.out.2.2.1.size
          have hown : Aside0 (∀ b, Value.ownBlock (.slice A6 acc.length c6) = some b → b < W2.heap.size) := by
            obtain ⟨css2, _, hco2, _⟩ := hd2.out.1
            exact ⟨fun b hb => (owner_lt hco2 hb).2⟩
          go_wp2_with (first
            | (go_at_call 41; refine hcall.out.mono ?_; rintro e w3 ⟨S3, out3, k3, ns3, bad3, rfl, hd3, q1, q2, q3, q4, hc3⟩; obtain ⟨A3, c3, rfl⟩ := hd3.1.form; have hA4 := Aside0.mk ((Below.refl w3.heap.size w3).alloc (Nat.le_refl _) (oC evR 81 3 (false, 0) (false, 0) (false, 0) (.slice A3 out3.length c3))); have hn4 := Aside0.mk (blk_new w3 (oC evR 81 3 (false, 0) (false, 0) (false, 0) (.slice A3 out3.length c3))); have hd4 := (hd2.out.call hd3.2.2.1 hd3.2.1).below hA4.out; obtain ⟨⟨css, hcl, hco, hcr⟩, hd5, hch5, hrl⟩ := hd4; have hrep := Aside0.mk ((hd3.1.below hA4.out).rep (k := 3) (a := (false, 0)) (b := (false, 0)) (c := (false, 0)) (by omega)); have hz4 : w.heap.size ≤ (w3.alloc (oC evR 81 3 (false, 0) (false, 0) (false, 0) (.slice A3 out3.length c3))).heap.size := Nat.le_trans hw2.out (Nat.le_trans hd3.2.2.1.size hA4.out.size); replace hd3 := Aside0.mk hd3; replace hcl := Aside0.mk hcl; replace hcr := Aside0.mk hcr; replace hco := Aside0.mk hco; replace hd5 := Aside0.mk hd5; replace hch5 := Aside0.mk hch5; replace hc3 := Aside0.mk hc3)
            | (at_builtin; refine wpList_append_own2 rfl _ _ 36 rfl w.heap.size 81 i0 (aC evR 0 (false, 0) (false, 0) (false, 0) (.slice none 0 0)) 8 80 Tryz.underlying36 hi.out hz0.out hz1.out hz2.out rfl (by decide) _ acc.length css.flatten rfl hco.out ⟨w3.heap.size, 0, none⟩ 1 1 [.int .i64 3, .int .i64 0, .int .i64 0, .int .i64 0, .int .i64 0, .int .i64 0, .int .i64 0, .slice A3 out3.length c3] rfl (by decide) rfl (cells_at hn4.out) (by simp [Value.oneCell']) hj1 hj2 hz4 ?_; intro v5 w5 hown5 hgr5 hfr5; replace hown5 := Aside0.mk hown5; replace hgr5 := Aside0.mk hgr5; replace hfr5 := Aside0.mk hfr5))
          have hnew := Aside0.mk (DS.snoc (w := w) (m := W2.heap.size) (W := w3.alloc (oC evR 81 3 (false, 0) (false, 0) (false, 0) (.slice A3 out3.length c3))) hcl.out hco.out hcr.out hd5.out hch5.out hrl rfl hrep.out hw2.out hown.out hown5.out hgr5.out hfr5.out)
          go_roundw
          case rel =>
            refine ⟨_, k3, ns3, bad3, hnew.out, by omega, by omega, by omega, by rw [List.length_append, List.length_singleton]; omega, ?_⟩
            rcases hc3.out with ⟨q5, rfl⟩ | ⟨rfl, q5⟩
            · exact .inl ⟨by rw [hrk.out, pconds_nogroup acc q5], rfl⟩
            · exact .inr ⟨rfl, j, by omega, by omega, by rw [hrk.out, pconds_group acc q5]⟩
          case measure =>
            rw [placeOf_of hnew.out.2.1, hpl.out]
            omega
        · have t1 : ((str x).toList == [125]) = false := by rw [ByteArray.toList_eq]; simpa using h125
          have t2 : ((str x).toList == [45, 123]) = false := by rw [ByteArray.toList_eq]; simpa using h45
          replace h125 := Aside0.mk h125
          replace h45 := Aside0.mk h45
          obtain ⟨X, hX⟩ : ∃ X, str x = X := ⟨_, rfl⟩
          rw [hX] at t1 t2 ⊢
          replace hX := Aside0.mk hX
          by_cases h3 : k1 + 3 ≤ ws.length
          · have hq3 : decide ((ws.length : Int) < (k1 : Int) + 3) = false := decide_eq_false (by omega)
            go_upto_region 18 with (go_quiet (fail))
            clear r0 r1 r3 f1 f3 hq3
            refine off_drew (w := Wq) (T := fun W => Code.wp _ _ _ _ W) (fun Wr hq => ?_) _
            replace hds := Aside0.mk (hds.out.below hq)
            clear hq
            have hA1 := (Below.refl Wr.heap.size Wr).alloc (Nat.le_refl _) z81k
            have hrr := hds.out.2.2.2
            have hD : DB Wr (Wr.alloc z81k) r (.slice (some ⟨b, o, none⟩) ws.length c) ws ns1 k1 0 Wr.heap.size 1 (false, 0) (false, 0) (false, 0) :=
              ⟨Ch.of_below hA1 _, hds.out.2.1.below hA1, blk_new _ _, Nat.le_refl _, Nat.lt_of_lt_of_le hrr hds.out.2.2.1.size⟩
            replace hD := Aside0.mk hD
            go_upto_region 19 with fail
            generalize Wr.alloc z81k = W1 at hD hA1 ⊢
            generalize hg : Wr.heap.size = g at hD ⊢
            replace hg := Aside0.mk hg
            clear hA1
            obtain ⟨y, hy⟩ : ∃ y, ws[k1 + 1]'(by omega) = y := ⟨_, rfl⟩
            obtain ⟨z, hz⟩ : ∃ z, ws[k1 + 2]'(by omega) = z := ⟨_, rfl⟩
            have hyl := hwl.out _ (List.getElem_mem (show k1 + 1 < ws.length by omega))
            have hzl := hwl.out _ (List.getElem_mem (show k1 + 2 < ws.length by omega))
            rw [hy] at hyl
            rw [hz] at hzl
            have hdr : ws.drop (k1 + 1) = y :: z :: ws.drop (k1 + 3) := by
              rw [List.drop_eq_getElem_cons (show k1 + 1 < ws.length by omega), hy, List.drop_eq_getElem_cons (show k1 + 1 + 1 < ws.length by omega)]
              exact congrArg (fun q => y :: q :: _) hz
            rw [hdr] at hrk
            replace hy := Aside0.mk hy
            replace hz := Aside0.mk hz
            clear hdr
            by_cases hdash : x.head? = some 45
            case' pos =>
              obtain ⟨u, hv⟩ : ∃ u, x = 45 :: u := by
                cases x with
                | nil => cases hdash
                | cons a t => cases hdash; exact ⟨t, rfl⟩
              have hda : dashW x = (2, u) := by rw [hv]; rfl
              have hul : u.length ≤ 1000 := by rw [hv, List.length_cons] at hxw; omega
              have hsz0 : 0 < X.size := by rw [← hX.out, str_size, hv]; simp
              have hv0 : (((X[0]'hsz0).toNat : Int) == 45) = true := by
                have := str_head' x 45 (by rw [hX.out]; exact hsz0)
                rw [decide_eq_true hdash, show (((45 : UInt8).toNat : Nat) : Int) = 45 from rfl] at this
                have e := hX.out
                subst e
                exact this
              have hU : Aside0 (X.extract 1 X.size = str u) := ⟨by rw [← hX.out, hv, str_cut]⟩
              have f0 := blk_frozen hD.out.2.2.1 0
              have b0 := (blk_cell hD.out.2.2.1 0).trans (show _ = some (Value.int .i64 1) from rfl)
              clear hdash hv
              go_upto_region 22 with fail
              clear f0 b0 hv0
              have hD2 := hD.out.kind 2
              generalize W1.setCell ⟨g, 0, none⟩ (.int .i64 2) = W2 at hD2 ⊢
              generalize X.extract 1 X.size = U at hU ⊢
              obtain ⟨kd, hkd⟩ : ∃ kd : Int, kd = 2 := ⟨_, rfl⟩
              rw [← hkd] at hD2 hda
              replace hkd := Aside0.mk hkd
              replace hD2 := Aside0.mk hD2
              replace hda := Aside0.mk hda
            case' neg =>
              obtain ⟨u, hu⟩ : ∃ u, x = u := ⟨_, rfl⟩
              have hda : dashW x = (1, u) := by unfold dashW; rw [if_neg hdash, hu]
              have hul : u.length ≤ 1000 := by rw [← hu]; exact hxw
              have hU : Aside0 (X = str u) := ⟨by rw [← hX.out, hu]⟩
              have hgu : Aside0 (X.size = 0 ∨ ∃ h : 0 < X.size, (((X[0]'h).toNat : Int) == 45) = false) := ⟨by
                by_cases h0 : X.size = 0
                · exact .inl h0
                · refine .inr ⟨by omega, ?_⟩
                  have e := hX.out
                  subst e
                  have := str_head' x 45 (by omega)
                  rw [show (((45 : UInt8).toNat : Nat) : Int) = 45 from rfl, decide_eq_false hdash] at this
                  exact this⟩
              clear hdash hu
              obtain ⟨kd, hkd⟩ : ∃ kd : Int, kd = 1 := ⟨_, rfl⟩
              have hD2 := hD.out
              rw [← hkd] at hda hD2
              replace hD2 := Aside0.mk hD2
              replace hkd := Aside0.mk hkd
              replace hda := Aside0.mk hda
              rcases hgu.out with hz0 | ⟨hz0, hh⟩
              case' inl =>
                go_upto_region 22 with fail
                clear hgu hz0
              case' inr =>
                go_upto_region 22 with fail
                clear hgu
            all_goals
              obtain ⟨r0, r1, r3, f1, f3⟩ := hD2.out.2.1.cells
              have cz := hD2.out.2.1.word (k1 + 2) (by omega)
              rw [hz.out] at cz
              go_upto_region 23 with (go_quiet (fail))
              clear r0 r1 r3 f1 f3 cz
              refine off_drew (T := fun W => Code.wp _ _ _ _ W) (fun W3 hq => ?_) _
              replace hD2 := Aside0.mk (hD2.out.below hq)
              clear hq
              have hcs := Aside0.mk (head_cases hU.out)
              have hls := Aside0.mk (last_cases z)
              obtain ⟨Z, hZ⟩ : ∃ Z, str z = Z := ⟨_, rfl⟩
              have hzl2 : Z.size ≤ 1000 := by rw [← hZ, str_size]; exact hzl
              rw [hZ] at hls ⊢
              replace hZ := Aside0.mk hZ
              obtain ⟨r0, r1, r3, f1, f3⟩ := hD2.out.2.1.cells
              rcases hcs.out with ⟨c1, c2⟩ | ⟨c1, c2, c3⟩ | ⟨c1, c2, c3⟩
              · first
                | omega
                | (have hf := Aside0.mk (pthree_not (ns := ns1) (x := x) (y := y) (z := z) (by rw [hda.out]; rintro ⟨q1, q2⟩; exact c2 q1)); clear hcs hls; go_upto_region 24 with fail; go_wp2; go_ret; exact ⟨_, acc, k1, ns1, 1, rfl, hds.out.call (hD2.out.wrong 1).1 (hD2.out.wrong 1).2.1, hkk, hk1, hn1, ha1, .inl ⟨by rw [hrk.out]; exact pconds_nocond acc h125.out h45.out hf.out, rfl⟩⟩)
              · have c4 := ne_empty c1
                have hf := Aside0.mk (pthree_not (ns := ns1) (x := x) (y := y) (z := z) (by rw [hda.out]; rintro ⟨q1, q2⟩; exact c3 q1))
                clear hcs hls
                go_upto_region 24 with fail
                go_wp2
                go_ret
                exact ⟨_, acc, k1, ns1, 1, rfl, hds.out.call (hD2.out.wrong 1).1 (hD2.out.wrong 1).2.1, hkk, hk1, hn1, ha1, .inl ⟨by rw [hrk.out]; exact pconds_nocond acc h125.out h45.out hf.out, rfl⟩⟩
              · have c4 := ne_empty c1
                rcases hls.out with ⟨d1, d2⟩ | ⟨d0, d1, d2, d3⟩ | ⟨d0, d1, d2, d3⟩
                · have hf := Aside0.mk (pthree_not (ns := ns1) (x := x) (y := y) (z := z) (by rw [hda.out]; rintro ⟨q1, q2⟩; exact d2 q2))
                  clear hcs hls
                  go_upto_region 24 with fail
                  go_wp2
                  go_ret
                  exact ⟨_, acc, k1, ns1, 1, rfl, hds.out.call (hD2.out.wrong 1).1 (hD2.out.wrong 1).2.1, hkk, hk1, hn1, ha1, .inl ⟨by rw [hrk.out]; exact pconds_nocond acc h125.out h45.out hf.out, rfl⟩⟩
                · have d4 := ne_empty d0
                  have d5 := idx_last d0
                  have hf := Aside0.mk (pthree_not (ns := ns1) (x := x) (y := y) (z := z) (by rw [hda.out]; rintro ⟨q1, q2⟩; exact d3 q2))
                  clear hcs hls
                  go_upto_region 24 with fail
                  go_wp2
                  go_ret
                  exact ⟨_, acc, k1, ns1, 1, rfl, hds.out.call (hD2.out.wrong 1).1 (hD2.out.wrong 1).2.1, hkk, hk1, hn1, ha1, .inl ⟨by rw [hrk.out]; exact pconds_nocond acc h125.out h45.out hf.out, rfl⟩⟩
                · have d4 := ne_empty d0
                  have d5 := idx_last d0
                  have d6 := size_ne c1
                  have d7 := size_ne d0
                  clear hcs hls
                  go_upto_region 26 with fail
                  clear r0 r1 r3 f1 f3
                  rcases e0 : termD ns1 u.tail with ⟨⟨ta, ia⟩, m1⟩
                  rcases e1 : termD m1 y with ⟨⟨tb, ib⟩, m2⟩
                  rcases e2 : termD m2 z.dropLast with ⟨⟨tc, ic⟩, m3⟩
                  have l1 := termD_len ns1 u.tail
                  have l2 := termD_len m1 y
                  have l3 := termD_len m2 z.dropLast
                  rw [e0] at l1
                  rw [e1] at l2
                  rw [e2] at l3
                  simp only at l1 l2 l3
                  have hcall := dterm_walk hD2.out.2.1 (by omega) u.tail (by rw [List.length_tail]; omega)
                  rw [← cut_head hU.out c3, e0] at hcall
                  replace hcall := Aside0.mk hcall
                  have h3' := Aside0.mk (pthree_D (ns := ns1) (x := x) (y := y) (z := z) (by rw [hda.out]; exact c3) d3 (by rw [hda.out]; exact e0) e1 e2)
                  clear e0 hU c3 d3
                  go_upto_region 27 with (go_at_call 63; refine hcall.out.mono ?_; rintro e W4 ⟨rfl, hc4, hd4⟩; have hD4 := Aside0.mk (hD2.out.call hc4 hd4); obtain ⟨q0, q1, q2, q3, q4, q5, q6, q7⟩ := frz8 hD4.out.2.2.1; obtain ⟨p0, p1, p2, p3, p4, p5, p6, p7⟩ := box8 hD4.out.2.2.1; clear hc4 hd4)
                  have hD5 : DB Wr ((W4.setCell ⟨g, 1, none⟩ (.int .i64 (evI ta.1))).setCell ⟨g, 2, none⟩ (.int .i64 ta.2)) r (.slice (some ⟨b, o, none⟩) ws.length c) ws m1 k1 (if ia = true then 0 else 1) g kd ta (false, 0) (false, 0) := hD4.out.two 1 _ _ ta (false, 0) (false, 0) rfl
                  clear q0 q1 q2 q3 q4 q5 q6 q7 p0 p1 p2 p3 p4 p5 p6 p7 hD4 hD2 hcall
                  generalize (W4.setCell ⟨g, 1, none⟩ (.int .i64 (evI ta.1))).setCell ⟨g, 2, none⟩ (.int .i64 ta.2) = W5 at hD5 ⊢
                  generalize hb1 : (if ia = true then (0 : Int) else 1) = bad1 at hD5
                  replace hb1 := Aside0.mk hb1
                  replace hD5 := Aside0.mk hD5
                  obtain ⟨r0, r1, -, -, -⟩ := hD5.out.2.1.cells
                  have hyc := hD5.out.2.1.word (k1 + 1) (by omega)
                  rw [hy.out] at hyc
                  have hrl : r < W5.heap.size := by obtain ⟨U, h1, -⟩ := hD5.out.2.1; exact blk_lt h1
                  obtain ⟨hbr, hbl⟩ : b ≠ r ∧ b < W5.heap.size := by
                    obtain ⟨U, h1, hV, -⟩ := hD5.out.2.1
                    obtain ⟨cs, h9⟩ := hV.block
                    exact ⟨blk_ne h9 h1 (by decide), blk_lt h9⟩
                  have s0 : ∀ W', GR r W5.drew W' → W'.cell? ⟨r, 0, none⟩ = some (.slice (some ⟨b, o, none⟩) ws.length c) := fun W' h => (h.2 hrl).1.trans r0
                  have s1 : ∀ W', GR r W5.drew W' → W'.cell? ⟨r, 1, none⟩ = some (.int .i64 k1) := fun W' h => (h.2 hrl).2.trans r1
                  have sw : ∀ W', GR r W5.drew W' → W'.cell? ⟨b, o + (k1 + 1), none⟩ = some (.string (str y)) := fun W' h => (World.cell?_of_block (h.1.block b hbl hbr)).trans hyc
                  have k63 : Aside0 (∀ W', YReg.Ext W5.drew W' → Calls Tryz.prog 63 #[.pointer (some ⟨r, 0, none⟩), .string (str y)] W' fun e W2 => ∃ u, e = .returned u ∧ GR r W' W2 ∧ IsT r (.slice (some ⟨b, o, none⟩) ws.length c) ws m2 k1 (if ib = true then bad1 else 1) tb u W2) := ⟨fun W' h => by
                    have hdr := hD5.out.2.1.below h.of_drew
                    have := dterm_walk hdr (by omega) y (by omega)
                    rw [e1] at this
                    exact this.mono fun e W2 ⟨x1, x2, x3⟩ => ⟨_, x1, ⟨x2, fun _ => ⟨x3.cells.1.trans hdr.cells.1.symm, x3.cells.2.1.trans hdr.cells.2.1.symm⟩⟩, rfl, x3⟩⟩
                  have hix := fun W => ix22 (b := b) (o := o) (n := ws.length) (c := c) (j := k1) (by omega) W
                  have hwr : IntKind.i64.wrap ((k1 : Int) + 1) = (k1 : Int) + 1 := wr1 (by omega)
                  clear e1 r0 r1 hyc
                  refine YReg.wp_region_tail 15 (some 12) YReg.Ext (GR r) YReg.Ext.refl YReg.Ext.trans GR.trans GR.of_ext (by kernel_rfl) (by kernel_rfl) (by kernel_rfl) [(0, .det (.pointer (some ⟨r, 0, none⟩))), (7, .det (.pointer (some ⟨g, 0, none⟩)))] (YReg.base_cons rfl (YReg.base_cons rfl YReg.base_nil)) ?_
                  simp only [List.take_succ_cons, List.take_zero, List.drop_succ_cons, List.drop_zero]
                  repeat (first
                    | (refine YReg.writes IsT.up k63.out rfl (by kernel_rfl) rfl _ rfl (by kernel_rfl) (by kernel_rfl) rfl ?_)
                    | (refine YReg.run_1 (by decide) YReg.Ext.refl rfl rfl _ rfl (by kernel_rfl) (by kernel_rfl) ?_; apply Exists.intro; refine ⟨fun ρ W hE h1 => ?_, ?_⟩; (go_simp; try rfl))
                    | (refine YReg.run_2 (by decide) YReg.Ext.refl rfl rfl rfl _ rfl (by kernel_rfl) (by kernel_rfl) ?_; apply Exists.intro; refine ⟨fun ρ W hE h1 h2 => ?_, ?_⟩; (go_simp; try rfl)))
                  intro ρ W6 hE6 hn6
                  obtain ⟨-, hu6, hd6⟩ := hn6
                  simp only [Act.put, List.setIfInBounds_toArray, List.set_cons_zero, List.set_cons_succ, hu6]
                  have hD6 := Aside0.mk (hD5.out.call ((Ch.refl W5 (fun b => b = r)).drew.then hE6.1 (fun b _ q => q)) hd6)
                  clear hu6 hd6 hE6 s0 s1 sw k63 hD5 hrl hbr hbl hix hwr
                  obtain ⟨q0, q1, q2, q3, q4, q5, q6, q7⟩ := frz8 hD6.out.2.2.1
                  obtain ⟨p0, p1, p2, p3, p4, p5, p6, p7⟩ := box8 hD6.out.2.2.1
                  go_upto_region 28 with fail
                  have hD7 : DB Wr ((W6.setCell ⟨g, 3, none⟩ (.int .i64 (evI tb.1))).setCell ⟨g, 4, none⟩ (.int .i64 tb.2)) r (.slice (some ⟨b, o, none⟩) ws.length c) ws m2 k1 (if ib = true then bad1 else 1) g kd ta tb (false, 0) := hD6.out.two 3 _ _ ta tb (false, 0) rfl
                  clear q0 q1 q2 q3 q4 q5 q6 q7 p0 p1 p2 p3 p4 p5 p6 p7 hD6
                  generalize (W6.setCell ⟨g, 3, none⟩ (.int .i64 (evI tb.1))).setCell ⟨g, 4, none⟩ (.int .i64 tb.2) = W7 at hD7 ⊢
                  generalize hb2 : (if ib = true then bad1 else 1) = bad2 at hD7
                  replace hb2 := Aside0.mk hb2
                  replace hD7 := Aside0.mk hD7
                  have hcall := dterm_walk hD7.out.2.1 (by omega) z.dropLast (by rw [List.length_dropLast]; omega)
                  rw [e2, ← str_init, hZ.out] at hcall
                  replace hcall := Aside0.mk hcall
                  clear e2
                  go_upto_region 29 with (go_at_call 63; refine hcall.out.mono ?_; rintro e W8 ⟨rfl, hc8, hd8⟩; have hD8 := Aside0.mk (hD7.out.call hc8 hd8); obtain ⟨q0, q1, q2, q3, q4, q5, q6, q7⟩ := frz8 hD8.out.2.2.1; obtain ⟨p0, p1, p2, p3, p4, p5, p6, p7⟩ := box8 hD8.out.2.2.1; clear hc8 hd8)
                  have hD9 : DB Wr ((W8.setCell ⟨g, 5, none⟩ (.int .i64 (evI tc.1))).setCell ⟨g, 6, none⟩ (.int .i64 tc.2)) r (.slice (some ⟨b, o, none⟩) ws.length c) ws m3 k1 (if ic = true then bad2 else 1) g kd ta tb tc := hD8.out.two 5 _ _ ta tb tc rfl
                  clear q0 q1 q2 q3 q4 q5 q6 q7 p0 p1 p2 p3 p4 p5 p6 p7 hD8 hD7 hcall
                  generalize (W8.setCell ⟨g, 5, none⟩ (.int .i64 (evI tc.1))).setCell ⟨g, 6, none⟩ (.int .i64 tc.2) = W9 at hD9 ⊢
                  generalize hb3 : (if ic = true then bad2 else 1) = bad3 at hD9
                  replace hb3 := Aside0.mk hb3
                  replace hD9 := Aside0.mk hD9
                  obtain ⟨r0, r1, -, f1, -⟩ := hD9.out.2.1.cells
                  have hp3 := Aside0.mk (show ((k1 : Int) + 3) = ((k1 + 3 : Nat) : Int) by omega)
                  go_upto_region 30 with fail
                  have hD10 := hD9.out.place ((k1 : Int) + 3)
                  rw [hp3.out] at hD10 ⊢
                  clear r0 r1 f1 hp3 hD9
                  generalize W9.setCell ⟨r, 1, none⟩ (.int .i64 ((k1 + 3 : Nat) : Int)) = Wa at hD10 ⊢
                  obtain ⟨p0, p1, p2, p3, p4, p5, p6, p7⟩ := box8 hD10.2.2.1
                  have hcase3 : Aside0 ((bad3 = 1 ∧ pthree ns1 x y z = none) ∨ (bad3 = 0 ∧ pthree ns1 x y z = some (m3, .mk kd ta tb tc []))) := ⟨by
                    have a1 := hb1.out
                    have a2 := hb2.out
                    have a3 := hb3.out
                    rw [h3'.out, hda.out]
                    cases ia <;> cases ib <;> cases ic <;> simp only [Bool.false_eq_true, if_false, if_true] at a1 a2 a3 <;> first | exact .inr ⟨by omega, by simp⟩ | exact .inl ⟨by omega, by simp⟩⟩
                  have hA4 := Aside0.mk ((Below.refl Wa.heap.size Wa).alloc (Nat.le_refl _) (oC evR 81 kd ta tb tc (.slice none 0 0)))
                  have hn4 := Aside0.mk (blk_new Wa (oC evR 81 kd ta tb tc (.slice none 0 0)))
                  have hown : Aside0 (∀ b, Value.ownBlock (.slice A6 acc.length c6) = some b → b < Wr.heap.size) := by
                    obtain ⟨css2, _, hco2, _⟩ := hds.out.1
                    exact ⟨fun b hb => (owner_lt hco2 hb).2⟩
                  obtain ⟨⟨css, hcl, hco, hcr⟩, hd5, hch5, hrl⟩ := (hds.out.call hD10.1 hD10.2.1).below hA4.out
                  have hz4 : w.heap.size ≤ (Wa.alloc (oC evR 81 kd ta tb tc (.slice none 0 0))).heap.size := hch5.size
                  have hj1 : acc.length + 1 ≤ maxLen := by omega
                  have hj2 : (acc.length + 1) * 80 ≤ 140737488355328 := by omega
                  have hwr := Aside0.mk hds.out.2.2.1.size
                  have hx8 : Rep evR (Wa.alloc (oC evR 81 kd ta tb tc (.slice none 0 0))) (fun b => Wr.heap.size ≤ b) (.mk kd ta tb tc []) [.int .i64 kd, evR ta.1, .int .i64 ta.2, evR tb.1, .int .i64 tb.2, evR tc.1, .int .i64 tc.2, .slice none 0 0] := by
                    unfold Rep
                    exact ⟨none, 0, by simp, rfl, by unfold RepL; trivial⟩
                  replace hx8 := Aside0.mk hx8
                  replace hcl := Aside0.mk hcl
                  replace hcr := Aside0.mk hcr
                  replace hco := Aside0.mk hco
                  replace hd5 := Aside0.mk hd5
                  replace hch5 := Aside0.mk hch5
                  replace hD10 := Aside0.mk hD10
                  go_wp2_with (at_builtin; refine wpList_append_own2 rfl _ _ 36 rfl w.heap.size 81 i0 (aC evR 0 (false, 0) (false, 0) (false, 0) (.slice none 0 0)) 8 80 Tryz.underlying36 hi.out hzz0.out hz1.out hz2.out rfl (by decide) _ acc.length css.flatten rfl hco.out ⟨Wa.heap.size, 0, none⟩ 1 1 [.int .i64 kd, evR ta.1, .int .i64 ta.2, evR tb.1, .int .i64 tb.2, evR tc.1, .int .i64 tc.2, .slice none 0 0] rfl (by decide) rfl (cells_at hn4.out) (by simp [Value.oneCell']) hj1 hj2 hz4 ?_; intro v5 w5 hown5 hgr5 hfr5; replace hown5 := Aside0.mk hown5; replace hgr5 := Aside0.mk hgr5; replace hfr5 := Aside0.mk hfr5)
                  have hnew := Aside0.mk (DS.snoc (w := w) (m := Wr.heap.size) (W := Wa.alloc (oC evR 81 kd ta tb tc (.slice none 0 0))) hcl.out hco.out hcr.out hd5.out hch5.out hrl rfl hx8.out hwr.out hown.out hown5.out hgr5.out hfr5.out)
                  go_roundw
                  case rel =>
                    refine ⟨_, k1 + 3, m3, bad3, hnew.out, by omega, by omega, by omega, by rw [List.length_append, List.length_singleton]; omega, ?_⟩
                    rcases hcase3.out with ⟨q5, q6⟩ | ⟨q5, q6⟩
                    · exact .inl ⟨by rw [hrk.out]; exact pconds_nocond acc h125.out h45.out q6, q5⟩
                    · exact .inr ⟨q5, j, by omega, by omega, by rw [hrk.out]; exact pconds_cond acc h125.out h45.out q6⟩
                  case measure =>
                    rw [placeOf_of hnew.out.2.1, hpl.out]
                    omega
          · have hq3 : decide ((ws.length : Int) < (k1 : Int) + 3) = true := decide_eq_true (by omega)
            go_upto_region 16 with (go_quiet (fail))
            clear r0 r1 r3 f1 f3 hq3
            refine off_drew (w := Wq) (T := fun W => Code.wp _ _ _ _ W) (fun Wr hq => ?_) _
            replace hds := Aside0.mk (hds.out.below hq)
            obtain ⟨r0, r1, r3, f1, f3⟩ := hds.out.2.1.cells
            have hd3 := Aside0.mk (hds.out.wrong 1)
            clear hq
            go_wp2
            go_ret
            exact ⟨_, acc, k1, ns1, 1, rfl, hd3.out, hkk, hk1, hn1, ha1, .inl ⟨by rw [hrk.out]; exact pconds_few acc h125.out h45.out (by rw [List.length_drop]; omega), rfl⟩⟩
end Go.Proofs.YtkbkkceeolclmaaGreatDoor.X
