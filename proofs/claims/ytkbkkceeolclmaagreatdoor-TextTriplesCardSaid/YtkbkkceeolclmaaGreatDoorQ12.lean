/- Rows of conditions that a call has made. The document's conditions. The program's table of names in memory: a row of names, a map from each to its number. -/
import Derived.Laws.OwnMore
import Derived.Test.YtkbkkceeolclmaaGreatDoorQ11
import Derived.Test.YtkbkkceeolclmaaGreatDoorQLMap
import Derived.Test.YtkbkkceeolclmaaGreatDoorQYReg
import Derived.Test.YtkbkkceeolclmaaGreatDoorQ08
set_option linter.unusedVariables false
set_option linter.unusedSimpArgs false
namespace Go.Proofs.YtkbkkceeolclmaaGreatDoor.X
open Go.RowKit Go.TX Go.Proofs.YtkbkkceeolclmaaGreatDoorW.PrintWords Go.Proofs.YtkbkkceeolclmaaGreatDoorL
/-- Conditions in a row of the call's own, made since block n. -/
def BR (n : Nat) (W : World) (v : Value) (l : List Cd) : Prop :=
  ∃ css : List (List Value), css.length = l.length ∧ W.ownsRow n 81 8 v l.length css.flatten ∧ ∀ i (h : i < l.length), ∃ cs, css[i]? = some cs ∧ cs.length = 8 ∧ Rep evR W (fun b => n ≤ b ∧ v.ownBlock ≠ some b) l[i] cs
theorem flat_at {css : List (List Value)} (h8 : ∀ cs ∈ css, cs.length = 8) : ∀ (i : Nat) (cs : List Value), css[i]? = some cs → ∀ q u, cs[q]? = some u → css.flatten[i * 8 + q]? = some u := by
  induction css with
  | nil => intro i cs h; simp at h
  | cons c css ih =>
    intro i cs h q u hu
    have hc := h8 c (by simp)
    cases i with
    | zero =>
      simp at h
      subst h
      rw [List.flatten_cons, Nat.zero_mul, Nat.zero_add, List.getElem?_append_left (by rw [hc]; have := (List.getElem?_eq_some_iff.1 hu).1; omega)]
      exact hu
    | succ i =>
      simp at h
      rw [List.flatten_cons, List.getElem?_append_right (by omega), hc]
      rw [show (i + 1) * 8 + q - 8 = i * 8 + q by omega]
      exact ih (fun x hx => h8 x (by simp [hx])) i cs h q u hu
theorem BR.nil (n : Nat) (W : World) : BR n W (.slice none 0 0) [] := ⟨[], rfl, World.ownsRow_nil _ _ _ _, fun _ h => absurd h (Nat.not_lt_zero _)⟩
/-- They are there to be read. -/
theorem BR.reads {n : Nat} {W : World} {v : Value} {l : List Cd} (h : BR n W v l) : ∃ A cap, v = .slice A l.length cap ∧ RepL evR W (fun b => n ≤ b) l A 0 := by
  obtain ⟨css, hl, ho, hr⟩ := h
  have h8 : ∀ cs ∈ css, cs.length = 8 := fun cs hc => by
    obtain ⟨i, hi, e⟩ := List.getElem_of_mem hc
    obtain ⟨cs', h1, h2, _⟩ := hr i (by omega)
    rw [List.getElem?_eq_getElem hi, e] at h1
    cases h1
    exact h2
  by_cases h0 : 0 < l.length
  · obtain ⟨g, cap, rfl, hg, hgl⟩ := owns_form1 ho h0
    refine ⟨_, cap, rfl, ?_⟩
    suffices hs : ∀ (m : List Cd) (j : Nat), j + m.length = l.length → (∀ i (h : i < m.length), l[j + i]? = some m[i]) → RepL evR W (fun b => n ≤ b) m (some ⟨g, 0, none⟩) j from hs l 0 (by simp) (fun i h => by simp)
    intro m
    induction m with
    | nil => intro j _ _; unfold RepL; trivial
    | cons x m ih =>
      intro j hj hm
      unfold RepL
      have hjl : j < l.length := by simp at hj; omega
      have hx := hm 0 (by simp)
      simp only [Nat.add_zero, List.getElem_cons_zero] at hx
      obtain ⟨cs, h1, h2, h3⟩ := hr j hjl
      have hlx : l[j] = x := by rw [List.getElem?_eq_getElem hjl] at hx; exact Option.some.inj hx
      rw [hlx] at h3
      refine ⟨⟨g, 0, cs, rfl, hg, hgl, Rep.mono (fun b hb => hb.1) x cs h3, fun q u hu => ?_⟩, ih (j + 1) (by simp at hj; omega) (fun i hi => ?_)⟩
      · have hf := flat_at h8 j cs h1 q u hu
        have hlt := (List.getElem?_eq_some_iff.1 hf).1
        rw [Nat.zero_add, ho.cellAt (j * 8 + q) (by
          have : css.flatten.length = l.length * 8 := by
            clear hf hlt hr h1
            rw [← hl]
            clear hl ho
            induction css with
            | nil => rfl
            | cons c css ihc => rw [List.flatten_cons, List.length_append, h8 c (by simp), ihc (fun x hx => h8 x (by simp [hx])), List.length_cons]; omega
          omega)]
        exact hf
      · have := hm (i + 1) (by simpa using hi)
        rw [show j + 1 + i = j + (i + 1) by omega]
        simpa using this
  · have hnil : l = [] := List.length_eq_zero_iff.1 (by omega)
    subst hnil
    obtain ⟨a, cap, rfl⟩ := owns_form ho
    exact ⟨a, cap, rfl, by unfold RepL; trivial⟩
section
variable {P : Program} {w : World}
/-- An append to a row of the call's own: the block is the elder one, or a new one. -/
theorem run_append_own2 (base : Nat) (t ty e : TypeId) (i : TypeInfo) (z : Value) (size bytes : Nat) (ht : P.underlying t = some (.slice e)) (hi : P.info? e = some i) (hz : i.zero = some z)
    (hsize : i.size = size) (hby : i.bytes = bytes) (hzs : z.cells.size = size) (hsz : 0 < size)
    (v : Value) (n : Nat) (xs : List Value) (hown : w.ownsRow base e size v n xs)
    (a : Addr) (m c : Nat) (news : List Value) (hm0 : 0 < m) (hl : news.length = m * size) (hnews : ∀ j u, news[j]? = some u → w.cell? (a.add j) = some u) (h1 : ∀ u ∈ news, u.oneCell' = true)
    (h63 : n + m ≤ maxLen) (hbytes : (n + m) * bytes ≤ 140737488355328) (hbase : base ≤ w.heap.size) :
    ∃ v' w', (Builtin.append_ #[t, t] ty #[v, .slice (some a) m c]).run P w = .ok v' w' ∧ w'.ownsRow base e size v' (n + m) (xs ++ news) ∧ w.grownBy w' v.ownBlock ∧
      ∀ x, v'.ownBlock = some x → v.ownBlock = some x ∨ w.heap.size ≤ x := by
  obtain ⟨v', w', hr, h2, h3, _⟩ := run_append_own (P := P) (w := w) base t ty e i z size bytes ht hi hz hsize hby hzs hsz v n xs hown a m c news hl hnews h1 h63 hbytes hbase
  refine ⟨v', w', hr, h2, h3, fun x hx => ?_⟩
  subst hsize
  subst hby
  have hmx : n + m ≤ 9223372036854775807 := by unfold maxLen at h63; omega
  have hmb : m * i.bytes ≤ (n + m) * i.bytes := Nat.mul_le_mul_right _ (by omega)
  rcases hown.2 with ⟨rfl, rfl⟩ | ⟨g, cap, cur, rfl, hbg, hg, hnc, hcm, hcs, htake⟩
  · have hr2 := run_append_nil (P := P) (w := w) t ty e i z ht hi hz a m c news hl hnews hm0 (by omega) (by omega)
    rw [hr] at hr2
    cases hr2
    simp only [Value.ownBlock, Option.some.injEq] at hx
    exact .inr (by omega)
  · by_cases hroom : n + m ≤ cap
    · have hfit : n * i.size + news.length ≤ cur.size := by rw [hl, hcs, ← Nat.add_mul]; exact Nat.mul_le_mul_right _ hroom
      have hr2 := run_append_room (P := P) (w := w) t ty e i ht hi g n cap cur hg a m c news hl hnews h1 hroom hfit
      rw [hr] at hr2
      cases hr2
      exact .inl hx
    · have holds : ∀ j u, xs[j]? = some u → w.cell? ((⟨g, 0, none⟩ : Addr).add j) = some u := hown.cells (g := g) rfl
      have hr2 := run_append_grow (P := P) (w := w) t ty e i z ht hi hz ⟨g, 0, none⟩ n cap xs hown.1 holds a m c news hl hnews (by omega) (by omega) (growslice_fits (by omega) hbytes)
      rw [hr] at hr2
      cases hr2
      simp only [Value.ownBlock, Option.some.injEq] at hx
      exact .inr (by omega)
theorem wpList_append_own2 {ops : Array Oper} {rest : List Oper} {o : Oper} {a : Act} {Q : Exit → Act → World → Prop} (hgd : o.guard = none) (s x : Operand) (t : TypeId)
    (ho : o.op = .call { callee := .builtin .append, args := #[s, x], argTypes := #[t, t] })
    (base : Nat) (e : TypeId) (i : TypeInfo) (z : Value) (size bytes : Nat) (ht : P.underlying t = some (.slice e)) (hi : P.info? e = some i) (hz : i.zero = some z)
    (hsize : i.size = size) (hby : i.bytes = bytes) (hzs : z.cells.size = size) (hsz : 0 < size)
    (v : Value) (n : Nat) (xs : List Value) (hs : a.eval s = v) (hown : w.ownsRow base e size v n xs)
    (ad : Addr) (m c : Nat) (news : List Value) (hx : a.eval x = .slice (some ad) m c) (hm0 : 0 < m) (hl : news.length = m * size) (hnews : ∀ j u, news[j]? = some u → w.cell? (ad.add j) = some u) (h1 : ∀ u ∈ news, u.oneCell' = true)
    (h63 : n + m ≤ maxLen) (hbytes : (n + m) * bytes ≤ 140737488355328) (hbase : base ≤ w.heap.size)
    (h : ∀ v' w', w'.ownsRow base e size v' (n + m) (xs ++ news) → w.grownBy w' v.ownBlock → (∀ x, v'.ownBlock = some x → v.ownBlock = some x ∨ w.heap.size ≤ x) → wpList P ops Q rest (a.put o.dst v') w') : wpList P ops Q (o :: rest) a w :=
  wpList_plain hgd fun _ hK => by
    obtain ⟨v', w', hr, h2, h3, h4⟩ := run_append_own2 (P := P) (w := w) base t o.type e i z size bytes ht hi hz hsize hby hzs hsz v n xs hown ad m c news hm0 hl hnews h1 h63 hbytes hbase
    unfold Oper.wp execOp
    simp only [ho, resolve, invoke, builtin, Sem.run_bind, Sem.run_pure, Result.andThen_ok, List.map_toArray, List.map_cons, List.map_nil, hs, hx, hr]
    exact hK _ _ (h v' w' h2 h3 h4)
end
theorem BR.below {n : Nat} {W W' : World} {v : Value} {l : List Cd} (h : BR n W v l) (hb : Below W.heap.size W W') : BR n W' v l := by
  obtain ⟨css, hl, ho, hr⟩ := h
  refine ⟨css, hl, owns_below ho hb, fun i hi => ?_⟩
  obtain ⟨cs, h1, h2, h3⟩ := hr i hi
  exact ⟨cs, h1, h2, h3.below hb⟩
theorem BR.base {n m : Nat} {W : World} {v : Value} {l : List Cd} (h : BR n W v l) (hm : m ≤ n) : BR m W v l := by
  obtain ⟨css, hl, ho, hr⟩ := h
  refine ⟨css, hl, ⟨ho.1, ho.2.imp id (fun ⟨g, cap, cur, e, hb, q⟩ => ⟨g, cap, cur, e, Nat.le_trans hm hb, q⟩)⟩, fun i hi => ?_⟩
  obtain ⟨cs, h1, h2, h3⟩ := hr i hi
  exact ⟨cs, h1, h2, Rep.mono (fun b hb => ⟨Nat.le_trans hm hb.1, hb.2⟩) _ cs h3⟩
/-- One more. -/
theorem BR.snoc {n m : Nat} {W W' : World} {v v' : Value} {l : List Cd} {css : List (List Value)} (hl : css.length = l.length) (ho : W.ownsRow n 81 8 v l.length css.flatten)
    (hr : ∀ i (h : i < l.length), ∃ cs, css[i]? = some cs ∧ cs.length = 8 ∧ Rep evR W (fun b => n ≤ b ∧ v.ownBlock ≠ some b) l[i] cs) {x : Cd} {cs : List Value} (h8 : cs.length = 8)
    (hx : Rep evR W (fun b => m ≤ b) x cs) (hm : n ≤ m) (hv : ∀ b, v.ownBlock = some b → b < m)
    (ho' : W'.ownsRow n 81 8 v' (l.length + 1) (css.flatten ++ cs)) (hg : W.grownBy W' v.ownBlock) (hf : ∀ b, v'.ownBlock = some b → v.ownBlock = some b ∨ W.heap.size ≤ b) : BR n W' v' (l ++ [x]) := by
  have far : ∀ (y : Cd) (c : List Value), Rep evR W (fun b => n ≤ b ∧ v.ownBlock ≠ some b) y c → Rep evR W' (fun b => n ≤ b ∧ v'.ownBlock ≠ some b) y c := fun y c h =>
    Rep.mono (fun b hb => ⟨hb.1.1, fun e => by
      rcases hf b e with q | q
      · exact hb.1.2 q
      · have := hb.2; omega⟩) y c (Rep.move y c (Rep.bound y c h) fun b hb hlt => hg.block b hlt (fun e => hb.1.2 e.symm))
  refine ⟨css ++ [cs], by simp [hl], by rw [List.flatten_append]; simpa using ho', fun i hi => ?_⟩
  by_cases hil : i < l.length
  · obtain ⟨c, h1, h2, h3⟩ := hr i hil
    refine ⟨c, by rw [List.getElem?_append_left (by omega)]; exact h1, h2, ?_⟩
    rw [List.getElem_append_left hil]
    exact far _ _ h3
  · have e : i = l.length := by simp at hi; omega
    subst e
    refine ⟨cs, by rw [List.getElem?_append_right (by omega), hl]; simp, h8, ?_⟩
    rw [List.getElem_append_right (by omega)]
    simp only [Nat.sub_self, List.getElem_cons_zero]
    exact far _ _ (Rep.mono (fun b hb => ⟨Nat.le_trans hm hb, fun e => by have := hv b e; omega⟩) x cs hx)
end Go.Proofs.YtkbkkceeolclmaaGreatDoor.X
namespace Go.Proofs.YtkbkkceeolclmaaGreatDoor.X
open Go.RowKit Go.TX Go.Proofs.YtkbkkceeolclmaaGreatDoorW.PrintWords Go.Proofs.YtkbkkceeolclmaaGreatDoorL
abbrev z81 : Obj := .cells #[.int .i64 0, .int .i64 0, .int .i64 0, .int .i64 0, .int .i64 0, .int .i64 0, .int .i64 0, .slice none 0 0] 81
/-- A condition that a call gives. -/
def IsC (n : Nat) (k : Int) (a b c : Tm) (subs : List Cd) (u : Value) (W : World) : Prop := ∃ S, u = aC evR k a b c S ∧ BR n W S subs
theorem IsC.up {n : Nat} {k : Int} {a b c : Tm} {subs : List Cd} : ∀ u w w', IsC n k a b c subs u w → YReg.Ext w w' → IsC n k a b c subs u w' := fun _ _ _ ⟨S, e, h⟩ hb => ⟨S, e, h.below hb⟩
/-- It lies alone in a row. -/
def InC (t : TypeId) (n : Nat) (k : Int) (a b c : Tm) (subs : List Cd) (u : Value) (W : World) : Prop := ∃ g S, u = .slice (some ⟨g, 0, none⟩) 1 1 ∧ W.heap[g]? = some (oC evR t k a b c S) ∧ BR n W S subs ∧ g < W.heap.size
theorem InC.up {t : TypeId} {n : Nat} {k : Int} {a b c : Tm} {subs : List Cd} : ∀ u w w', InC t n k a b c subs u w → YReg.Ext w w' → InC t n k a b c subs u w' := fun _ _ _ ⟨g, S, e, h, hi, hl⟩ hb => ⟨g, S, e, (hb.block g hl).trans h, hi.below hb, Nat.lt_of_lt_of_le hl hb.size⟩
/-- A new box. -/
def NewC (n : Nat) (u : Value) (W : World) : Prop := ∃ g, u = .pointer (some ⟨g, 0, none⟩) ∧ W.heap[g]? = some z81 ∧ n ≤ g ∧ g < W.heap.size
theorem NewC.up {n : Nat} : ∀ u w w', NewC n u w → YReg.Ext w w' → NewC n u w' := fun _ _ _ ⟨g, e, h, hi, hl⟩ hb => ⟨g, e, (hb.block g hl).trans h, hi, Nat.lt_of_lt_of_le hl hb.size⟩
theorem cells_at {w : World} {b : Nat} {cs : List Value} {t : TypeId} (h : w.heap[b]? = some (.cells cs.toArray t (0, 0))) : ∀ j u, cs[j]? = some u → w.cell? ((⟨b, 0, none⟩ : Addr).add j) = some u := by
  intro j u hj
  have e : (⟨b, 0, none⟩ : Addr).add j = ⟨b, j, none⟩ := by
    unfold Addr.add
    split
    · rename_i e; subst e; rfl
    · simp
  rw [e, blk_cell h j]
  simpa using hj
theorem BR.far {n : Nat} {W W' : World} {v : Value} {l : List Cd} (h : BR n W v l) (hb : ∀ b, n ≤ b → b < W.heap.size → W'.heap[b]? = W.heap[b]?) : BR n W' v l := by
  obtain ⟨css, hl, ho, hr⟩ := h
  refine ⟨css, hl, owns_move ho (fun b h1 h2 _ => hb b h1 h2), fun i hi => ?_⟩
  obtain ⟨cs, h1, h2, h3⟩ := hr i hi
  exact ⟨cs, h1, h2, Rep.move _ cs h3 fun b hf hl => hb b hf.1 hl⟩
theorem BR.set {n : Nat} {W : World} {v : Value} {l : List Cd} (h : BR n W v l) {p : Addr} (hp : p.block < n) (u : Value) : BR n (W.setCell p u) v l := h.far fun b hb _ => Below.heap_setCell _ _ _ _ (by omega)
theorem BR.form {n : Nat} {W : World} {v : Value} {l : List Cd} (h : BR n W v l) : ∃ A cap, v = .slice A l.length cap := by
  obtain ⟨css, hl, ho, hr⟩ := h
  exact owns_form ho
theorem IsC.base {n m : Nat} {k : Int} {a b c : Tm} {subs : List Cd} {u : Value} {W : World} (h : IsC n k a b c subs u W) (hm : m ≤ n) : IsC m k a b c subs u W := by
  obtain ⟨S, e, h⟩ := h
  exact ⟨S, e, h.base hm⟩
theorem BR.rep {n : Nat} {W : World} {S : Value} {k : Int} {a b c : Tm} {subs : List Cd} (h : BR n W S subs) (hl : subs.length ≤ 9223372036854775807) : Rep evR W (fun b => n ≤ b) (.mk k a b c subs) [.int .i64 k, evR a.1, .int .i64 a.2, evR b.1, .int .i64 b.2, evR c.1, .int .i64 c.2, S] := by
  obtain ⟨A, cap, rfl, hr⟩ := h.reads
  unfold Rep
  exact ⟨A, cap, hl, rfl, hr⟩
theorem owner_lt {W : World} {n e size k : Nat} {v : Value} {xs : List Value} (h : W.ownsRow n e size v k xs) {b : Nat} (hb : v.ownBlock = some b) : n ≤ b ∧ b < W.heap.size := by
  rcases h.2 with ⟨rfl, rfl⟩ | ⟨g, cap, cur, rfl, h1, hh, _⟩
  · simp [Value.ownBlock] at hb
  · simp [Value.ownBlock] at hb
    subst hb
    exact ⟨h1, (Array.getElem?_eq_some_iff.1 hh).1⟩
attribute [local go_sem] YReg.envOf
end Go.Proofs.YtkbkkceeolclmaaGreatDoor.X
namespace Go.Proofs.YtkbkkceeolclmaaGreatDoor.X
open Go.RowKit Go.TX Go.Proofs.YtkbkkceeolclmaaGreatDoorW.PrintWords Go.Proofs.YtkbkkceeolclmaaGreatDoorL
def strCode : KeyCode Tryz.prog 9 ByteArray where
  enc := fun s => .string s
  good := fun s => s.size ≤ maxLen
  lit := fun s => .string s.data.toList
  keyed := Maps.string_keyed Tryz.underlying9
  of := fun _ h => WideMaps.keyOf_string_mk (P := Tryz.prog) Tryz.underlying9 h
  inj := fun _ _ h => by cases h; rfl
/-- What a call may change: blocks of F alone, and none of a row of conditions. -/
structure Fr (w W : World) (F : Nat → Prop) : Prop where
  ch : Ch w W F
  k72 : ∀ (b : Nat) (cs : Array Value), w.heap[b]? = some (.cells cs 72 (0, 0)) → W.heap[b]? = w.heap[b]?
theorem Fr.refl (w : World) (F : Nat → Prop) : Fr w w F := ⟨Ch.refl _ _, fun _ _ _ => rfl⟩
theorem Fr.mono {w W : World} {F G : Nat → Prop} (h : Fr w W F) (hs : ∀ b, F b → G b) : Fr w W G := ⟨h.ch.mono hs, h.k72⟩
theorem Fr.then {w w1 w2 : World} {F G : Nat → Prop} (h : Fr w w1 F) (k : Fr w1 w2 G) (hs : ∀ b, b < w.heap.size → G b → F b) : Fr w w2 F :=
  ⟨h.ch.then k.ch hs, fun b cs e => (k.k72 b cs ((h.k72 b cs e).trans e)).trans (h.k72 b cs e)⟩
theorem Fr.of_below {w W : World} (h : Below w.heap.size w W) (F : Nat → Prop) : Fr w W F := ⟨Ch.of_below h F, fun b _ e => h.block b (blk_lt e)⟩
theorem Fr.of {w W : World} {S F : Nat → Prop} (h : Ch w W S) (hs : ∀ b, S b → F b) (hn : ∀ (b : Nat) (cs : Array Value), S b → w.heap[b]? ≠ some (.cells cs 72 (0, 0))) : Fr w W F :=
  ⟨h.mono hs, fun b cs e => h.block b (blk_lt e) (fun q => hn b cs q e)⟩
theorem Fr.below {w W : World} {F : Nat → Prop} (h : Fr w W F) {B : Nat} (hB : B ≤ w.heap.size) (hs : ∀ b, F b → B ≤ b) : Below B w W := h.ch.below (Below.refl _ _) hB hs
/-- F and what is new. -/
def New (w : World) (F : Nat → Prop) (b : Nat) : Prop := F b ∨ w.heap.size ≤ b
def cellsN (ns : List (List UInt8)) : List Value := ns.map fun s => .string (str s)
theorem cellsN_len (ns : List (List UInt8)) : (cellsN ns).length = ns.length := by simp [cellsN]
def symOf (ns : List (List UInt8)) (s : ByteArray) : Option Value := if s.data.toList ∈ ns then some (.int .i64 (findN ns s.data.toList : Nat)) else none
/-- The table at block t: its blocks are all in F. -/
def Tb (w : World) (F : Nat → Prop) (t : Nat) (ns : List (List UInt8)) : Prop :=
  ∃ N m, w.heap[t]? = some (.cells #[N, .map (some m)] 101 (0, 0)) ∧ w.ownsRow 0 9 1 N ns.length (cellsN ns) ∧ MapIs strCode w m (symOf ns) ns.length ∧ F t ∧ F m ∧ ∀ b, N.ownBlock = some b → F b
section
variable {w W : World} {F G : Nat → Prop} {t : Nat} {ns : List (List UInt8)}
theorem Tb.move (h : Tb w F t ns) (hb : ∀ b, F b → b < w.heap.size → W.heap[b]? = w.heap[b]?) : Tb W F t ns := by
  obtain ⟨N, m, h1, h2, h3, h4, h5, h6⟩ := h
  exact ⟨N, m, (hb t h4 (blk_lt h1)).trans h1, owns_move h2 (fun b _ hl ho => hb b (h6 b ho) hl), h3.of_heap (hb m h5 h3.lt), h4, h5, h6⟩
theorem Tb.mono (h : Tb w F t ns) (hf : ∀ b, F b → G b) : Tb w G t ns := by
  obtain ⟨N, m, h1, h2, h3, h4, h5, h6⟩ := h
  exact ⟨N, m, h1, h2, h3, hf _ h4, hf _ h5, fun b hb => hf _ (h6 b hb)⟩
theorem Tb.below (h : Tb w F t ns) (hb : Below w.heap.size w W) : Tb W F t ns := h.move fun b _ hl => hb.block b hl
theorem Tb.lt (h : Tb w F t ns) : t < w.heap.size := by
  obtain ⟨N, m, h1, _⟩ := h
  exact blk_lt h1
/-- What it has stays where another call changes nothing of it. -/
theorem Tb.ch (h : Tb w F t ns) (hc : Ch w W G) (hd : ∀ b, F b → ¬ G b) : Tb W F t ns := h.move fun b hf hl => hc.block b hl (hd b hf)
end
theorem zero3 (w : World) : (zeroValue 3).run Tryz.prog w = .ok (.int .i64 0) w := by kernel_rfl
theorem sym_look {w : World} {m : Nat} {ns : List (List UInt8)} (h : MapIs strCode w m (symOf ns) ns.length) (s : List UInt8) (hs : s.length ≤ 1000000) :
    (Instr.lookup 86 (.map (some m)) (.string (str s)) true).run Tryz.prog w = .ok (.tuple #[.int .i64 (findN ns s : Nat), .bool (decide (s ∈ ns))]) w := by
  have hmax : 1000000 ≤ maxLen := by decide
  have := h.look Tryz.underlying86 (zero3 w) (x := str s) (show (str s).size ≤ maxLen by rw [str_size]; omega) true
  by_cases hm : s ∈ ns
  · simpa [symOf, strCode, hm] using this
  · simpa [symOf, strCode, hm, findN] using this
theorem new20 (w : World) : Calls Tryz.prog 20 #[] w fun e W => ∃ t, e = .returned (.pointer (some ⟨t, 0, none⟩)) ∧ Below w.heap.size w W ∧ Tb W (fun b => w.heap.size ≤ b ∧ b < W.heap.size) t [] := by
  have hmm := @run_makeMap Tryz.prog
  have hb := Aside0.mk (((Below.refl w.heap.size w).alloc (Nat.le_refl _) (.map #[] 0)).alloc (by simp) (.cells #[.slice none 0 0, .map (some w.heap.size)] 101))
  have m0 := Aside0.mk ((MapIs.made strCode w).of_heap (Below.heap_alloc _ (.cells #[.slice none 0 0, .map (some w.heap.size)] 101) _ (by simp)))
  have ht := blk_new (w.alloc (.map #[] 0)) (.cells #[.slice none 0 0, .map (some w.heap.size)] 101)
  simp only [World.size_alloc] at ht
  replace ht := Aside0.mk ht
  go_enter Tryz.func20, Tryz.ntmps20
  go_wp2
  go_ret
  refine ⟨w.heap.size + 1, rfl, hb.out, .slice none 0 0, w.heap.size, ht.out, World.ownsRow_nil _ _ _ _, m0.out.congr (fun x => by simp [symOf]), ⟨by omega, by simp only [World.size_alloc]; omega⟩, ⟨by omega, by simp only [World.size_alloc]; omega⟩, fun b hb => by simp [Value.ownBlock] at hb⟩
set_option maxRecDepth 100000 in
theorem find_walk {w : World} {F : Nat → Prop} {t : Nat} {ns : List (List UInt8)} (h : Tb w F t ns) (s : List UInt8) (hs : s.length ≤ 1000000) :
    Calls Tryz.prog 64 #[.pointer (some ⟨t, 0, none⟩), .string (str s)] w fun e W => e = .returned (.tuple #[.int .i64 (findN ns s : Nat), .bool (decide (s ∈ ns))]) ∧ w = W := by
  obtain ⟨N, m, h1, _, h3, _⟩ := h
  have hl := sym_look h3 s hs
  have t1 := (blk_cell h1 1).trans (show _ = some (Value.map (some m)) from rfl)
  clear h3 h1
  generalize decide (s ∈ ns) = d at hl ⊢
  go_enter Tryz.func64, Tryz.ntmps64
  go_wp2
  go_ret2
  exact ⟨rfl, rfl⟩
/-- The name of a number. -/
def nameN (ns : List (List UInt8)) (n : Int) : Option (List UInt8) := if 1 ≤ n ∧ n ≤ ns.length then ns[(n - 1).toNat]? else none
set_option maxRecDepth 100000 in
theorem name_walk {w : World} {F : Nat → Prop} {t : Nat} {ns : List (List UInt8)} (h : Tb w F t ns) (n : Int) (hlen : ns.length ≤ 1000000) (hn1 : -9223372036854775808 ≤ n) (hn2 : n ≤ 9223372036854775807) :
    Calls Tryz.prog 39 #[.pointer (some ⟨t, 0, none⟩), .int .i64 n] w fun e W => e = .returned (.tuple #[.string (str ((nameN ns n).getD [])), .bool (nameN ns n).isSome]) ∧ w = W := by
  obtain ⟨N, m, h1, h2, _⟩ := h
  obtain ⟨A, c, rfl⟩ := owns_form h2
  have t0 := (blk_cell h1 0).trans (show _ = some (Value.slice A ns.length c) from rfl)
  clear h1
  by_cases c1 : n < 1
  · have e : nameN ns n = none := by unfold nameN; rw [if_neg (by omega)]
    rw [e]
    clear h2 e
    go_enter Tryz.func39, Tryz.ntmps39
    go_wp2
    go_ret2
    exact ⟨rfl, rfl⟩
  · by_cases c2 : n > ns.length
    · have e : nameN ns n = none := by unfold nameN; rw [if_neg (by omega)]
      rw [e]
      clear h2 e
      go_enter Tryz.func39, Tryz.ntmps39
      go_wp2
      go_ret2
      exact ⟨rfl, rfl⟩
    · obtain ⟨q, rfl⟩ : ∃ q : Nat, n = (q : Int) + 1 := ⟨(n - 1).toNat, by omega⟩
      have hq : q < ns.length := by omega
      have e : nameN ns ((q : Int) + 1) = some ns[q] := by
        unfold nameN
        rw [if_pos (by omega), show ((q : Int) + 1 - 1).toNat = q by omega, List.getElem?_eq_getElem hq]
      rw [e]
      obtain ⟨g, cap, he, _, hgl⟩ := owns_form1 h2 (by omega)
      cases he
      have hc := h2.cells (g := g) rfl q (.string (str ns[q])) (by simp [cellsN, hq])
      have ea : (⟨g, 0, none⟩ : Addr).add q = ⟨g, 0 + q, none⟩ := by
        unfold Addr.add
        split
        · rename_i e; subst e; rfl
        · simp
      rw [ea, Nat.zero_add] at hc
      clear e ea
      have hlc : ns.length ≤ c := by
        rcases h2.2 with ⟨e2, _⟩ | ⟨g2, cap2, cur2, e2, _, _, q1, q2, _⟩
        · cases e2
        · cases e2
          exact q1
      clear h2
      have e1 : ((q : Int) + 1 - 1) = (q : Int) := by omega
      go_enter Tryz.func39, Tryz.ntmps39
      go_wp2
      go_ret2
      exact ⟨rfl, rfl⟩
theorem len_walk {w : World} {F : Nat → Prop} {t : Nat} {ns : List (List UInt8)} (h : Tb w F t ns) :
    Calls Tryz.prog 19 #[.pointer (some ⟨t, 0, none⟩)] w fun e W => e = .returned (.int .i64 (ns.length : Nat)) ∧ w = W := by
  obtain ⟨N, m, h1, h2, _⟩ := h
  obtain ⟨A, c, rfl⟩ := owns_form h2
  have t0 := (blk_cell h1 0).trans (show _ = some (Value.slice A ns.length c) from rfl)
  clear h1 h2
  go_enter Tryz.func19, Tryz.ntmps19
  go_wp2
  go_ret
  exact ⟨rfl, rfl⟩
end Go.Proofs.YtkbkkceeolclmaaGreatDoor.X
