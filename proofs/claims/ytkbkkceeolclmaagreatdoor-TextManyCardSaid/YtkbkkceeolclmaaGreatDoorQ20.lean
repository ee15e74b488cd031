/- The reader's conditions. -/
import Derived.Test.YtkbkkceeolclmaaGreatDoorQ19
set_option linter.unusedVariables false
set_option linter.unusedSimpArgs false
namespace Go.Proofs.YtkbkkceeolclmaaGreatDoor.X
open Go.RowKit Go.TX Go.Proofs.YtkbkkceeolclmaaGreatDoorW.PrintWords Go.Proofs.YtkbkkceeolclmaaGreatDoorL
theorem info72 : (Tryz.prog.info? 72).map (fun i => (i.zero, i.size, i.bytes)) = some (some (aC evA 0 (false, 0) (false, 0) (false, 0) (.slice none 0 0)), 8, 80) := by kernel_rfl
theorem RdE.one {w : World} {T F : Nat → Prop} {r tb : Nat} {x : List UInt8} {l ns fr : List (List UInt8)} (h : RdE w T F r tb (x :: l) ns fr) :
    ∃ bw o c p f m, w.heap[r]? = some (.cells #[.slice (some ⟨bw, o, none⟩) (l.length + 1) c, p, f, m] 88 (0, 0)) ∧ w.cell? ⟨bw, o, none⟩ = some (.string (str x)) ∧ l.length + 1 ≤ c ∧ WordsAt w (fun b => F b ∨ T b) (.slice (some ⟨bw, o, none⟩) (x :: l).length c) (x :: l) := by
  obtain ⟨A, c, p, f, m, hh, hw⟩ := h.words
  obtain ⟨A', c', e, h1, _, h3⟩ := id hw
  cases e
  obtain ⟨b0, o0, e0, _, _, c0⟩ := h3 0 (by simp)
  subst e0
  exact ⟨b0, o0, c, p, f, m, hh, by simpa using c0, by simpa using h1, hw⟩
theorem BX.set {n : Nat} {W : World} {v : Value} {l : List Cd} (h : BX n W v l) {g : Nat} {cs : Array Value} {ty : TypeId} (hg : W.heap[g]? = some (.cells cs ty (0, 0))) (ht : ty ≠ 72) (j : Nat) (u : Value) : BX n (W.setCell ⟨g, j, none⟩ u) v l :=
  h.k72 fun b cs2 e => Below.heap_setCell _ _ _ _ (ne_type e hg (Ne.symm ht))
/-- All blocks but rows of conditions stay. -/
theorem RdE.non72 {w W : World} {T F : Nat → Prop} {r tb : Nat} {ws ns fr : List (List UInt8)} (h : RdE w T F r tb ws ns fr) (hs : w.heap.size ≤ W.heap.size) (hb : ∀ b, b < w.heap.size → ¬ is72 w b → W.heap[b]? = w.heap[b]?) : RdE W T F r tb ws ns fr := by
  obtain ⟨Wv, Fv, sm, h⟩ := h
  have n72 : ∀ {b : Nat} {cs : Array Value} {ty : TypeId}, w.heap[b]? = some (.cells cs ty (0, 0)) → ty ≠ 72 → W.heap[b]? = w.heap[b]? := fun {b cs ty} e ht => hb b (blk_lt e) (fun ⟨q, hq⟩ => ne_type e hq ht rfl)
  have nmap : ∀ {b n : Nat} {κ : ByteArray → Option Value}, MapIs strCode w b κ n → W.heap[b]? = w.heap[b]? := fun {b n κ} e => hb b e.lt (fun ⟨q, hq⟩ => ne_map e hq rfl)
  refine ⟨Wv, Fv, sm, (n72 h.head (by decide)).trans h.head, ?_, owns_move h.fresh (fun b _ _ ho => ?_), h.seen.of_heap (nmap h.seen), ?_, h.fr_, h.fs, h.ff, fun b q => Nat.lt_of_lt_of_le (h.tlt b q) hs, fun b q => Nat.lt_of_lt_of_le (h.flt b q) hs, h.apart⟩
  · obtain ⟨A, c, e1, e2, e3, e4⟩ := h.words
    refine ⟨A, c, e1, e2, e3, fun i hi => ?_⟩
    obtain ⟨b, o, e, ⟨cs2, hcs⟩, hn, hcell⟩ := e4 i hi
    have hbl := n72 hcs (by decide)
    exact ⟨b, o, e, ⟨cs2, hbl.trans hcs⟩, hn, (World.cell?_of_block hbl).trans hcell⟩
  · obtain ⟨cs2, hcs⟩ := own_typed h.fresh b ho
    exact n72 hcs (by decide)
  · obtain ⟨N, mm, a1, a2, a3, a4, a5, a6⟩ := h.table
    refine ⟨N, mm, (n72 a1 (by decide)).trans a1, owns_move a2 (fun b _ _ ho => ?_), a3.of_heap (nmap a3), a4, a5, a6⟩
    obtain ⟨cs2, hcs⟩ := own_typed a2 b ho
    exact n72 hcs (by decide)
theorem Fr.grown {w W W' : World} {F : Nat → Prop} (h : Fr w W F) {row : Option Nat} (hg : W.grownBy W' row) (hr : ∀ k, row = some k → w.heap.size ≤ k) : Fr w W' F :=
  ⟨h.ch.grown hg (fun k e hk => by have := hr k e; omega), fun b cs e => (hg.block b (Nat.lt_of_lt_of_le (blk_lt e) h.ch.size) (fun q => by have := hr b q.symm; have := blk_lt e; omega)).trans (h.k72 b cs e)⟩
def lenAt (w : World) (r : Nat) : Nat := match w.cell? ⟨r, 0, none⟩ with | some (.slice _ n _) => n | _ => 0
theorem lenAt_of {w : World} {T F : Nat → Prop} {r tb : Nat} {ws ns fr : List (List UInt8)} (h : RdE w T F r tb ws ns fr) : lenAt w r = ws.length := by
  obtain ⟨A, c, p, f, m, hh, _⟩ := h.words
  unfold lenAt
  rw [(blk_cell hh 0).trans (show _ = some (Value.slice A ws.length c) from rfl)]
def CPost (w : World) (T F : Nat → Prop) (r tb : Nat) (ns : List (List UInt8)) (res : Option (List (List UInt8) × List Cd × List (List UInt8))) (ws fr : List (List UInt8)) (e : Ending) (W : World) : Prop :=
  ∃ V ok ws' fr', e = .returned (.tuple #[V, .bool ok]) ∧ Fr w W F ∧ RdX w F W T r tb ws' ns fr' ∧ fr'.length + ws'.length ≤ fr.length + ws.length ∧ ws' <:+ ws ∧
    ((res = none ∧ ok = false) ∨ ∃ out, res = some (ns ++ fr', out, ws') ∧ ok = true ∧ BX w.heap.size W V out ∧ out.length ≤ ws.length)
set_option maxRecDepth 100000 in
set_option maxHeartbeats 4000000 in
theorem conds_walk {T : Nat → Prop} {r tb : Nat} {ns : List (List UInt8)} (m : Nat) : ∀ (n : Nat) (w : World) (F : Nat → Prop) (ws fr : List (List UInt8)) (inner : Bool), n ≤ m → ws.length < n → RdE w T F r tb ws ns fr → (∀ x ∈ ws, x.length ≤ 5000) → ns.length + (fr.length + ws.length) ≤ 90000 →
    Calls Tryz.prog 34 #[.pointer (some ⟨r, 0, none⟩), .bool inner] w (CPost w T F r tb ns (pconds n inner ws (ns ++ fr)) ws fr) := by
  induction m with
  | zero => intro n w F ws fr inner hn hl; omega
  | succ m ih =>
    intro n w F ws fr inner hn hl hrd hwl hbig
    obtain ⟨i0, hi, hz0, hz1, hz2⟩ := info_parts info72
    replace hi := Aside0.mk hi
    replace hz0 := Aside0.mk hz0
    replace hz1 := Aside0.mk hz1
    replace hz2 := Aside0.mk hz2
    have hmax : 1000000 ≤ maxLen := by decide
    replace hwl := Aside0.mk hwl
    obtain ⟨res, hres⟩ : ∃ q, pconds n inner ws (ns ++ fr) = q := ⟨_, rfl⟩
    have hr72 := Aside0.mk hrd.r72
    rw [hres]
    have h0 := Aside0.mk hrd
    replace hres := Aside0.mk hres
    clear hrd
    go_enter Tryz.func34, Tryz.ntmps34
    go_upto_region 2 with fail
    go_loopw [6] (fun V wr => ∃ (acc : List Cd) (wj fj : List (List UInt8)) (k : Nat) (F' : Nat → Prop), BX w.heap.size wr V acc ∧ RdE wr T F' r tb wj ns fj ∧ (∀ b, F' b → F b ∨ w.heap.size ≤ b) ∧ Fr w wr F ∧ fj.length + wj.length ≤ fr.length + ws.length ∧ wj <:+ ws ∧ wj.length < k ∧ k ≤ n ∧ res = pre acc (pconds k inner wj (ns ++ fj)) ∧ acc.length + wj.length ≤ ws.length) (fun _ wr => lenAt wr r)
    case atStart => exact ⟨[], ws, fr, n, F, BX.nil _ _, h0.out, fun b q => .inl q, Fr.refl _ _, Nat.le_refl _, List.suffix_refl _, hl, Nat.le_refl _, by rw [pre_nil, hres.out], by simp⟩
    case round =>
      obtain ⟨acc, wj, fj, k, F', hbx, hrd, hF', hfr, hle, hsuf, hlk, hkn, hrk, hacc⟩ := hrel
      clear h0
      have hlen := lenAt_of hrd
      obtain ⟨k, rfl⟩ : ∃ q, k = q + 1 := ⟨k - 1, by omega⟩
      obtain ⟨A6, c6, rfl⟩ := hbx.form
      cases wj with
      | nil =>
        obtain ⟨A, c, p, f, mm, hh, _⟩ := hrd.words
        have r0 := (blk_cell hh 0).trans (show _ = some (Value.slice A 0 c) from rfl)
        clear hh
        replace hbx := Aside0.mk hbx
        replace hrd := Aside0.mk hrd
        replace hfr := Aside0.mk hfr
        replace hF' := Aside0.mk hF'
        replace hrk := Aside0.mk hrk
        replace hsuf := Aside0.mk hsuf
        cases inner with
        | true =>
          go_wp2
          go_ret2
          exact ⟨_, _, [], fj, rfl, hfr.out, ⟨F', hF'.out, hrd.out⟩, by omega, List.nil_suffix, .inl ⟨by rw [hrk.out]; rfl, rfl⟩⟩
        | false =>
          go_wp2
          go_ret2
          exact ⟨_, _, [], fj, rfl, hfr.out, ⟨F', hF'.out, hrd.out⟩, by omega, List.nil_suffix, .inr ⟨acc, by rw [hrk.out]; simp [pconds, pre], rfl, hbx.out, by omega⟩⟩
      | cons x l =>
        obtain ⟨bw, o, cw, p, f, mm, hh, cx, hcw, hws⟩ := hrd.one
        have r0 := (blk_cell hh 0).trans (show _ = some (Value.slice (some ⟨bw, o, none⟩) (l.length + 1) cw) from rfl)
        have fr0 := blk_frozen hh 0
        rw [List.length_cons] at hlk hle hacc hlen
        have hcut := Aside0.mk (cut_words hws 1 (by simp))
        replace hh := Aside0.mk hh
        replace hbx := Aside0.mk hbx
        replace hrd := Aside0.mk hrd
        replace hfr := Aside0.mk hfr
        replace hF' := Aside0.mk hF'
        replace hrk := Aside0.mk hrk
        replace hsuf := Aside0.mk hsuf
        clear hws
        by_cases h125 : x = [125]
        · subst h125
          go_upto_region 10 with fail
          have hrd2 := Aside0.mk (hrd.out.cut (ws' := l) (V := .slice (if cw = 1 then some ⟨bw, o, none⟩ else some ⟨bw, o + 1, none⟩) l.length (cw - 1)) (fun F2 hF2 => hcut.out.mono (fun b _ q => (hF2 b).1 q)))
          have hfr2 := Aside0.mk (hfr.out.write (p := ⟨r, 0, none⟩) (fun _ => hr72.out.1) hr72.out.2 (.slice (if cw = 1 then some ⟨bw, o, none⟩ else some ⟨bw, o + 1, none⟩) l.length (cw - 1)))
          have hbx2 := Aside0.mk (hbx.out.set hh.out (by decide) 0 (.slice (if cw = 1 then some ⟨bw, o, none⟩ else some ⟨bw, o + 1, none⟩) l.length (cw - 1)))
          clear r0 fr0 cx
          generalize wr.setCell ⟨r, 0, none⟩ (.slice (if cw = 1 then some ⟨bw, o, none⟩ else some ⟨bw, o + 1, none⟩) l.length (cw - 1)) = W2 at hrd2 hfr2 hbx2 ⊢
          generalize Value.slice (if cw = 1 then some ⟨bw, o, none⟩ else some ⟨bw, o + 1, none⟩) l.length (cw - 1) = V2
          have hs2 : l <:+ ws := List.IsSuffix.trans (List.suffix_cons _ _) hsuf.out
          replace hs2 := Aside0.mk hs2
          cases inner with
          | true =>
            go_wp2
            go_ret2
            exact ⟨_, _, l, fj, rfl, hfr2.out, ⟨F', hF'.out, hrd2.out⟩, by omega, hs2.out, .inr ⟨acc, by rw [hrk.out]; simp [pconds, pre], rfl, hbx2.out, by omega⟩⟩
          | false =>
            go_wp2
            go_ret2
            exact ⟨_, _, l, fj, rfl, hfr2.out, ⟨F', hF'.out, hrd2.out⟩, by omega, hs2.out, .inl ⟨by rw [hrk.out]; simp [pconds, pre], rfl⟩⟩
        · by_cases h45 : x = [45, 123]
          · subst h45
            go_upto_region 13 with fail
            have hrd2 := Aside0.mk (hrd.out.cut (ws' := l) (V := .slice (if cw = 1 then some ⟨bw, o, none⟩ else some ⟨bw, o + 1, none⟩) l.length (cw - 1)) (fun F2 hF2 => hcut.out.mono (fun b _ q => (hF2 b).1 q)))
            have hfr2 := Aside0.mk (hfr.out.write (p := ⟨r, 0, none⟩) (fun _ => hr72.out.1) hr72.out.2 (.slice (if cw = 1 then some ⟨bw, o, none⟩ else some ⟨bw, o + 1, none⟩) l.length (cw - 1)))
            have hbx2 := Aside0.mk (hbx.out.set hh.out (by decide) 0 (.slice (if cw = 1 then some ⟨bw, o, none⟩ else some ⟨bw, o + 1, none⟩) l.length (cw - 1)))
            clear r0 fr0 cx
            generalize wr.setCell ⟨r, 0, none⟩ (.slice (if cw = 1 then some ⟨bw, o, none⟩ else some ⟨bw, o + 1, none⟩) l.length (cw - 1)) = W2 at hrd2 hfr2 hbx2 ⊢
            generalize Value.slice (if cw = 1 then some ⟨bw, o, none⟩ else some ⟨bw, o + 1, none⟩) l.length (cw - 1) = V2
            have hs2 := Aside0.mk (List.IsSuffix.trans (List.suffix_cons _ _) hsuf.out : l <:+ ws)
            have hcall := Aside0.mk (ih k W2 F' l fj true (by omega) (by omega) hrd2.out (fun x hx => hwl.out x (hs2.out.subset hx)) (by omega))
            go_upto_region 14 with (go_at_call 34; refine hcall.out.mono ?_; rintro e w3 ⟨V3, ok3, ws3, fr3, rfl, hfr3, hrx3, hle3, hsuf3, hres3⟩; replace hfr3 := Aside0.mk hfr3; replace hrx3 := Aside0.mk hrx3; replace hsuf3 := Aside0.mk hsuf3; replace hres3 := Aside0.mk hres3)
            have hz2' : w.heap.size ≤ W2.heap.size := hfr2.out.ch.size
            have hl3 := hsuf3.out.length_le
            have hfr4 := Aside0.mk (hfr2.out.thenX hfr3.out hF'.out)
            have hs4 := Aside0.mk (List.IsSuffix.trans hsuf3.out hs2.out)
            obtain ⟨F3, hF3, hrd3⟩ := hrx3.out
            replace hF3 := Aside0.mk (fun b (q : F3 b) => (hF3 b q).elim (hF'.out b) (fun q => .inr (Nat.le_trans hz2' q)))
            replace hrd3 := Aside0.mk hrd3
            rcases hres3.out with ⟨hn3, rfl⟩ | ⟨out3, hp3, rfl, hbx3, hol3⟩
            · replace hn3 := Aside0.mk hn3
              go_wp2
              go_ret2
              exact ⟨_, _, ws3, fr3, rfl, hfr4.out, ⟨F3, hF3.out, hrd3.out⟩, by omega, hs4.out, .inl ⟨by rw [hrk.out]; exact pconds_nogroup acc hn3.out, rfl⟩⟩
            · replace hp3 := Aside0.mk hp3
              obtain ⟨A3, c3, rfl⟩ := hbx3.form
              have hrep := Aside0.mk (hbx3.rep (k := 3) (a := (false, 0)) (b := (false, 0)) (c := (false, 0)) (by omega))
              have hbx4 := hbx2.out.fr hfr3.out
              obtain ⟨css, hcl, hco, hcr⟩ := hbx4
              have hown : Aside0 (∀ b, Value.ownBlock (.slice A6 acc.length c6) = some b → b < W2.heap.size) := by
                obtain ⟨css2, _, hco2, _⟩ := hbx2.out
                exact ⟨fun b hb => (owner_lt hco2 hb).2⟩
              replace hcl := Aside0.mk hcl
              replace hcr := Aside0.mk hcr
              have hA4 := Aside0.mk ((Below.refl w3.heap.size w3).alloc (Nat.le_refl _) (oC evA 72 3 (false, 0) (false, 0) (false, 0) (.slice A3 out3.length c3)))
              have hn4 := Aside0.mk (blk_new w3 (oC evA 72 3 (false, 0) (false, 0) (false, 0) (.slice A3 out3.length c3)))
              have hco4 := owns_below hco hA4.out
              have hz4 : w.heap.size ≤ (w3.alloc (oC evA 72 3 (false, 0) (false, 0) (false, 0) (.slice A3 out3.length c3))).heap.size := Nat.le_trans hz2' (Nat.le_trans hfr3.out.ch.size hA4.out.size)
              have hj1 : acc.length + 1 ≤ maxLen := by omega
              have hj2 : (acc.length + 1) * 80 ≤ 140737488355328 := by omega
              replace hco := Aside0.mk hco
              go_wp2_with (at_builtin; refine wpList_append_own2 rfl _ _ 23 rfl w.heap.size 72 i0 (aC evA 0 (false, 0) (false, 0) (false, 0) (.slice none 0 0)) 8 80 Tryz.underlying23 hi.out hz0.out hz1.out hz2.out rfl (by decide) _ acc.length css.flatten rfl hco4 ⟨w3.heap.size, 0, none⟩ 1 1 [.int .i64 3, .bool false, .int .i64 0, .bool false, .int .i64 0, .bool false, .int .i64 0, .slice A3 out3.length c3] rfl (by decide) rfl (cells_at hn4.out) (by simp [Value.oneCell']) hj1 hj2 hz4 ?_; intro v5 w5 hown5 hgr5 hfr5; replace hown5 := Aside0.mk hown5; replace hgr5 := Aside0.mk hgr5; replace hfr5 := Aside0.mk hfr5)
              have hrd5 := (hrd3.out.below hA4.out).non72 (W := w5) hgr5.out.size (fun b hb hnb => hgr5.out.block b hb (fun e => hnb (own_typed hco4 b e.symm)))
              go_roundw
              case rel =>
                refine ⟨acc ++ [.mk 3 (false, 0) (false, 0) (false, 0) out3], ws3, fr3, k, F3, BX.snoc (W := w3.alloc (oC evA 72 3 (false, 0) (false, 0) (false, 0) (.slice A3 out3.length c3))) hcl.out (fun i hi => ?_) rfl (?_) hz2' hown.out hown5.out hgr5.out hfr5.out, hrd5, hF3.out, (hfr4.out.below' hA4.out).grown hgr5.out (fun b e => (owner_lt hco4 e).1), by omega, hs4.out, by omega, by omega, by rw [hrk.out]; exact pconds_group acc hp3.out, by rw [List.length_append, List.length_singleton]; omega⟩
                · obtain ⟨cs, q1, q2, q3⟩ := hcr.out i hi
                  exact ⟨cs, q1, q2, Rep.mono (fun b hb => ⟨⟨hb.1.1.1, by obtain ⟨q, hq⟩ := hb.1.1.2; exact ⟨q, (hA4.out.block b hb.2).trans hq⟩⟩, hb.1.2⟩) _ cs (Rep.below (Rep.bound _ cs q3) hA4.out)⟩
                · exact Rep.mono (fun b hb => ⟨hb.1.1, by obtain ⟨q, hq⟩ := hb.1.2; exact ⟨q, (hA4.out.block b hb.2).trans hq⟩⟩) _ _ (Rep.below (Rep.bound _ _ hrep.out) hA4.out)
              case measure =>
                rw [lenAt_of hrd5, hlen]
                omega
          · by_cases h2 : l.length < 2
            · have hcall := Aside0.mk (three_none hrd.out (by rw [List.length_cons]; omega))
              have q1 : ((str x).toList == [125]) = false := by rw [ByteArray.toList_eq]; simpa using h125
              have q2 : ((str x).toList == [45, 123]) = false := by rw [ByteArray.toList_eq]; simpa using h45
              replace h125 := Aside0.mk h125
              replace h45 := Aside0.mk h45
              generalize str x = X at q1 q2 cx
              clear hcut
              go_upto_region 5 with (go_at_call 61; refine hcall.out.mono ?_; rintro e w3 ⟨⟨u3, rfl, k3, ka, kb, kc, kA, kn, km, rfl⟩, hfr3, hrx3⟩; replace hfr3 := Aside0.mk hfr3; replace hrx3 := Aside0.mk hrx3)
              obtain ⟨F3, hF3, hrd3⟩ := hrx3.out
              have hA4 := Aside0.mk ((Below.refl w3.heap.size w3).alloc (Nat.le_refl _) (oC evA 72 k3 ka kb kc (.slice kA kn km)))
              replace hrd3 := Aside0.mk hrd3
              replace hF3 := Aside0.mk hF3
              have hz3 : w.heap.size ≤ wr.heap.size := hfr.out.ch.size
              go_wp2
              go_ret2
              exact ⟨_, _, x :: l, fj, rfl, (hfr.out.thenX hfr3.out hF'.out).below' hA4.out, ⟨F3, fun b q => (hF3.out b q).elim (hF'.out b) (fun q => .inr (Nat.le_trans hz3 q)), hrd3.out.below hA4.out⟩, by rw [List.length_cons]; omega, hsuf.out, .inl ⟨by rw [hrk.out]; exact pconds_few acc h125.out h45.out h2, rfl⟩⟩
            · obtain ⟨y, z, rest, rfl⟩ : ∃ y z rest, l = y :: z :: rest := by
                match l, h2 with
                | [], h2 => simp at h2
                | [_], h2 => simp at h2
                | y :: z :: rest, _ => exact ⟨y, z, rest, rfl⟩
              rcases e0 : termP ns fj (openW (dashW x).2) with ⟨⟨a, ia⟩, f1⟩
              rcases e1 : termP ns f1 y with ⟨⟨b, ib⟩, f2⟩
              rcases e2 : termP ns f2 (shutW z) with ⟨⟨c, ic⟩, f3⟩
              have l1 := termP_len ns fj (openW (dashW x).2)
              have l2 := termP_len ns f1 y
              have l3 := termP_len ns f2 (shutW z)
              rw [e0] at l1
              rw [e1] at l2
              rw [e2] at l3
              simp only [List.length_cons] at hle hacc hlk hlen l1 l2 l3
              have hthree := pthree_of e0 e1 e2
              have hcall := three_walk hrd.out (hwl.out x (hsuf.out.subset (by simp))) (hwl.out y (hsuf.out.subset (by simp))) (hwl.out z (hsuf.out.subset (by simp))) (by omega) e0 e1 e2
              generalize ((((decide ((dashW x).2.head? = some 40) && decide (z.getLast? = some 41)) && ia) && ib) && ic) = fl at hthree hcall
              generalize (dashW x).1 = kd at hthree hcall
              replace hcall := Aside0.mk hcall
              clear e0 e1 e2
              have q1 : ((str x).toList == [125]) = false := by rw [ByteArray.toList_eq]; simpa using h125
              have q2 : ((str x).toList == [45, 123]) = false := by rw [ByteArray.toList_eq]; simpa using h45
              replace h125 := Aside0.mk h125
              replace h45 := Aside0.mk h45
              replace hthree := Aside0.mk hthree
              generalize str x = X at q1 q2 cx
              clear hcut
              go_upto_region 5 with (go_at_call 61; refine hcall.out.mono ?_; rintro e w3 ⟨rfl, hfr3, hrx3⟩; replace hfr3 := Aside0.mk hfr3; replace hrx3 := Aside0.mk hrx3)
              obtain ⟨F3, hF3, hrd3⟩ := hrx3.out
              have hz3 : w.heap.size ≤ wr.heap.size := hfr.out.ch.size
              have hs3 := Aside0.mk (((List.suffix_cons z rest).trans ((List.suffix_cons y (z :: rest)).trans (List.suffix_cons x (y :: z :: rest)))).trans hsuf.out : rest <:+ ws)
              have hA4 := Aside0.mk ((Below.refl w3.heap.size w3).alloc (Nat.le_refl _) (oC evA 72 kd a b c (.slice none 0 0)))
              have hx4 := Aside0.mk (blk_new w3 (oC evA 72 kd a b c (.slice none 0 0)))
              have hfr4 := Aside0.mk ((hfr.out.thenX hfr3.out hF'.out).below' hA4.out)
              have hrd4 := Aside0.mk (hrd3.below hA4.out)
              replace hF3 := Aside0.mk (fun b (q : F3 b) => (hF3 b q).elim (hF'.out b) (fun q => .inr (Nat.le_trans hz3 q)))
              have hbx4 := Aside0.mk ((hbx.out.fr hfr3.out).below hA4.out)
              clear hrd3 hrx3
              have hz4 := Aside0.mk hA4.out.size
              generalize w3.alloc (oC evA 72 kd a b c (.slice none 0 0)) = W4 at hA4 hx4 hfr4 hrd4 hbx4 hz4 ⊢
              generalize hg3 : w3.heap.size = g at hx4 ⊢
              cases fl with
              | false =>
                go_wp2
                go_ret2
                exact ⟨_, _, rest, f3, rfl, hfr4.out, ⟨F3, hF3.out, hrd4.out⟩, by omega, hs3.out, .inl ⟨by rw [hrk.out]; exact pconds_nocond acc h125.out h45.out (hthree.out.trans (if_neg (by decide))), rfl⟩⟩
              | true =>
                obtain ⟨d0, d1, d2, d3, d4, d5, d6, d7⟩ := box8 hx4.out
                obtain ⟨css, hcl, hco, hcr⟩ := hbx4.out
                have hown : Aside0 (∀ b, Value.ownBlock (.slice A6 acc.length c6) = some b → b < wr.heap.size) := by
                  obtain ⟨css2, _, hco2, _⟩ := hbx.out
                  exact ⟨fun b hb => (owner_lt hco2 hb).2⟩
                replace hcl := Aside0.mk hcl
                replace hcr := Aside0.mk hcr
                have hA5 := Aside0.mk ((Below.refl W4.heap.size W4).alloc (Nat.le_refl _) (oC evA 72 kd a b c (.slice none 0 0)))
                have hn5 := Aside0.mk (blk_new W4 (oC evA 72 kd a b c (.slice none 0 0)))
                have hco5 := owns_below hco hA5.out
                have hz5 : w.heap.size ≤ (W4.alloc (oC evA 72 kd a b c (.slice none 0 0))).heap.size := Nat.le_trans hz3 (Nat.le_trans hfr3.out.ch.size (Nat.le_trans hA4.out.size hA5.out.size))
                have hj1 : acc.length + 1 ≤ maxLen := by omega
                have hj2 : (acc.length + 1) * 80 ≤ 140737488355328 := by omega
                replace hco := Aside0.mk hco
                go_wp2_with (at_builtin; refine wpList_append_own2 rfl _ _ 23 rfl w.heap.size 72 i0 (aC evA 0 (false, 0) (false, 0) (false, 0) (.slice none 0 0)) 8 80 Tryz.underlying23 hi.out hz0.out hz1.out hz2.out rfl (by decide) _ acc.length css.flatten rfl hco5 ⟨W4.heap.size, 0, none⟩ 1 1 [.int .i64 kd, .bool a.1, .int .i64 a.2, .bool b.1, .int .i64 b.2, .bool c.1, .int .i64 c.2, .slice none 0 0] rfl (by decide) rfl (cells_at hn5.out) (by simp [Value.oneCell']) hj1 hj2 hz5 ?_; intro v5 w5 hown5 hgr5 hfr5; replace hown5 := Aside0.mk hown5; replace hgr5 := Aside0.mk hgr5; replace hfr5 := Aside0.mk hfr5)
                have hrd5 := (hrd4.out.below hA5.out).non72 (W := w5) hgr5.out.size (fun b hb hnb => hgr5.out.block b hb (fun e => hnb (own_typed hco5 b e.symm)))
                go_roundw
                case rel =>
                  refine ⟨acc ++ [.mk kd a b c []], rest, f3, k, F3, BX.snoc (m := wr.heap.size) (W := W4.alloc (oC evA 72 kd a b c (.slice none 0 0))) hcl.out (fun i hi => ?_) rfl (by unfold Rep; exact ⟨none, 0, by simp, rfl, by unfold RepL; trivial⟩) hz3 hown.out hown5.out hgr5.out hfr5.out, hrd5, hF3.out, (hfr4.out.below' hA5.out).grown hgr5.out (fun b e => (owner_lt hco5 e).1), by omega, hs3.out, by omega, by omega, by rw [hrk.out]; exact pconds_cond acc h125.out h45.out (hthree.out.trans (if_pos rfl)), by rw [List.length_append, List.length_singleton]; omega⟩
                  obtain ⟨cs, q1, q2, q3⟩ := hcr.out i hi
                  exact ⟨cs, q1, q2, Rep.mono (fun b hb => ⟨⟨hb.1.1.1, by obtain ⟨q, hq⟩ := hb.1.1.2; exact ⟨q, (hA5.out.block b hb.2).trans hq⟩⟩, hb.1.2⟩) _ cs (Rep.below (Rep.bound _ cs q3) hA5.out)⟩
                case measure =>
                  rw [lenAt_of hrd5, hlen]
                  omega
end Go.Proofs.YtkbkkceeolclmaaGreatDoor.X
