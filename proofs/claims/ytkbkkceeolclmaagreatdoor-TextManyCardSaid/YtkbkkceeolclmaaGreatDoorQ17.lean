/- A word's term. Words cut off from ahead; the reader's words are written. -/
import Derived.Test.YtkbkkceeolclmaaGreatDoorQ16
set_option linter.unusedVariables false
set_option linter.unusedSimpArgs false
namespace Go.Proofs.YtkbkkceeolclmaaGreatDoor.X
open Go.RowKit Go.TX Go.Proofs.YtkbkkceeolclmaaGreatDoorW.PrintWords Go.Proofs.YtkbkkceeolclmaaGreatDoorL
abbrev z69 : Obj := .cells #[.bool false, .int .i64 0] 69
theorem str_nil (v : List UInt8) : (str v).toList.isEmpty = decide (v = []) := by
  rw [ByteArray.toList_eq]
  cases v with
  | nil => rfl
  | cons a t => rfl
theorem str_head (v : List UInt8) (h : 0 < (str v).size) : ((((str v)[0]'h).toNat : Int) == 48) = decide (v.head? = some 48) := by
  cases v with
  | nil => simp [str_size] at h
  | cons a t =>
    rw [Bool.eq_iff_iff, beq_iff_eq, decide_eq_true_iff]
    have e : ((str (a :: t))[0]'h) = a := rfl
    rw [e]
    simp only [List.head?_cons, Option.some.injEq]
    constructor
    · intro q
      apply UInt8.toNat_inj.1
      rw [show (48 : UInt8).toNat = 48 from rfl]
      omega
    · rintro rfl
      rfl
set_option maxRecDepth 100000 in
set_option maxHeartbeats 4000000 in
theorem term_walk {w : World} {T F : Nat → Prop} {r tb : Nat} {ws ns fr : List (List UInt8)} (h : RdE w T F r tb ws ns fr) (s : List UInt8) (hs : s.length ≤ 5000) (hl : ns.length + fr.length ≤ 100000) :
    Calls Tryz.prog 83 #[.pointer (some ⟨r, 0, none⟩), .string (str s)] w fun e W => e = .returned (.tuple #[.agg #[.bool (termP ns fr s).1.1.1, .int .i64 (termP ns fr s).1.1.2], .bool (termP ns fr s).1.2]) ∧ Fr w W F ∧ RdX w F W T r tb ws ns (termP ns fr s).2 := by
  have hB0 := Aside0.mk ((Below.refl w.heap.size w).alloc (Nat.le_refl _) z69)
  have hx0 := Aside0.mk (blk_new w z69)
  have hz0 := Aside0.mk (show (w.alloc z69).heap.size = w.heap.size + 1 by simp)
  have hpre := Aside0.mk (fun W => prefix_any s 63 W)
  have h0 := Aside0.mk (h.below hB0.out)
  have hFg : Aside0 (¬ F w.heap.size) := ⟨fun q => by
    obtain ⟨Wv, Fv, sm, h⟩ := h
    have := h.flt _ q
    omega⟩
  have hfr0 := Aside0.mk (Fr.of_below hB0.out F)
  clear h
  obtain ⟨⟨⟨⟨qb, qn⟩, qo⟩, qf⟩, hr⟩ : ∃ q, termP ns fr s = q := ⟨_, rfl⟩
  rw [hr]
  replace hr := Aside0.mk hr
  go_enter Tryz.func83, Tryz.ntmps83
  go_upto_region 1 with fail
  generalize w.alloc z69 = W0 at hB0 hx0 hz0 h0 hfr0 ⊢
  generalize hg : w.heap.size = g at hx0 hFg ⊢
  have f0 := blk_frozen hx0.out 0
  have f1 := blk_frozen hx0.out 1
  have c0 := (blk_cell hx0.out 0).trans (show _ = some (Value.bool false) from rfl)
  have c1 := (blk_cell hx0.out 1).trans (show _ = some (Value.int .i64 0) from rfl)
  by_cases hq : s.head? = some 63
  · rw [if_pos hq, decide_eq_true hq] at hpre
    have hvl : s.tail.length ≤ 5000 := by rw [List.length_tail]; omega
    have hqe : termP ns fr s = if okNum s.tail then (((true, number s.tail), true), fr) else (((false, 0), false), fr) := by
      unfold termP
      rw [if_pos hq]
    rw [hr.out] at hqe
    generalize s.tail = v at hpre hvl hqe
    have hvs : (str v).size ≤ 5000 := by rw [str_size]; omega
    have htr := Aside0.mk (fun W => trim_any v (by omega) W)
    have hnil := str_nil v
    replace hg := Aside0.mk hg
    by_cases hok : okNum v = true
    · obtain ⟨h1, h2, h3, h4⟩ := (okNum_iff v).1 hok
      obtain ⟨m1, m2, m3⟩ := num_of_ok hok
      rw [if_pos hok] at hqe
      obtain ⟨⟨⟨rfl, rfl⟩, rfl⟩, rfl⟩ : ((qb = true ∧ qn = number v) ∧ qo = true) ∧ qf = fr := by simpa [Prod.ext_iff] using hqe
      rw [(trim_digits v).2 h4] at htr
      rw [decide_eq_false h1] at hnil
      have hat := Aside0.mk (fun W => atoi_ok (str v) (by omega) (number v) (by simpa using m3) W)
      have hsz : decide ((9 : Int) < ((str v).size : Int)) = false := by rw [str_size]; simp; omega
      have hsz0 : 0 < (str v).size := by
        rw [str_size]
        cases v with
        | nil => exact absurd rfl h1
        | cons a t => simp
      have hv0 := str_head v hsz0
      rw [decide_eq_false h3] at hv0
      clear hqe hq h1 h2 h3 h4 hok
      generalize str v = S at hpre htr hnil hat hsz hsz0 hv0
      go_wp2_with (first | (go_at_call 81; refine (hpre.out _).mono ?_; rintro e w1 ⟨rfl, rfl⟩) | (go_at_call 96; refine (htr.out _).mono ?_; rintro e w2 ⟨rfl, hb2⟩; replace hb2 := Aside0.mk hb2) | (go_at_call 97; refine (hat.out _).mono ?_; rintro e w3 ⟨rfl, hb3⟩; have hbb := Aside0.mk (hb2.out.trans (hb3.mono hb2.out.size)); have hx2 := Aside0.mk ((hbb.out.block g (blk_lt hx0.out)).trans hx0.out); have f0 := blk_frozen hx2.out 0; have f1 := blk_frozen hx2.out 1; have c0 := (blk_cell hx2.out 0).trans (show _ = some (Value.bool false) from rfl); have c1 := (blk_cell hx2.out 1).trans (show _ = some (Value.int .i64 0) from rfl); replace hb3 := Aside0.mk hb3))
      have hx4 := blk_put (blk_put hx2.out 0 (.bool true) rfl) 1 (.int .i64 (number v)) rfl
      have z0 := (blk_cell hx4 0).trans (show _ = some (Value.bool true) from rfl)
      have z1 := (blk_cell hx4 1).trans (show _ = some (Value.int .i64 (number v)) from rfl)
      refine bodyPost_ret (v := .tuple #[.agg #[.bool true, .int .i64 (number v)], .bool true]) (by simp [results, Tryz.results83, go_sem, z0, z1]) rfl ⟨rfl, ?_, RdX.same ?_⟩
      · exact (((hfr0.out.thenX (Fr.of_below hbb.out F) (fun b q => .inl q)).set (p := ⟨g, 0, none⟩) (Nat.le_of_eq hg.out) _).set (p := ⟨g, 1, none⟩) (Nat.le_of_eq hg.out) _)
      · exact ((h0.out.below hbb.out).set hx2.out (by decide) (by decide) (by decide) 0 _).set (blk_put hx2.out 0 (.bool true) rfl) (by decide) (by decide) (by decide) 1 _
    · rw [if_neg hok] at hqe
      obtain ⟨⟨⟨rfl, rfl⟩, rfl⟩, rfl⟩ : ((qb = false ∧ qn = 0) ∧ qo = false) ∧ qf = fr := by simpa [Prod.ext_iff] using hqe
      clear hqe hq
      by_cases h1 : v = []
      · rw [decide_eq_true h1] at hnil
        clear h1 hok htr
        generalize str v = S at hpre hnil hvs
        go_wp2_with (go_at_call 81; refine (hpre.out _).mono ?_; rintro e w1 ⟨rfl, rfl⟩)
        have hx4 := blk_put (blk_put hx0.out 0 (.bool false) rfl) 1 (.int .i64 0) rfl
        have z0 := (blk_cell hx4 0).trans (show _ = some (Value.bool false) from rfl)
        have z1 := (blk_cell hx4 1).trans (show _ = some (Value.int .i64 0) from rfl)
        refine bodyPost_ret (v := .tuple #[.agg #[.bool false, .int .i64 0], .bool false]) (by simp [results, Tryz.results83, go_sem, z0, z1]) rfl ⟨rfl, ?_, RdX.same ?_⟩
        · exact ((hfr0.out.set (p := ⟨g, 0, none⟩) (Nat.le_of_eq hg.out) _).set (p := ⟨g, 1, none⟩) (Nat.le_of_eq hg.out) _)
        · exact (h0.out.set hx0.out (by decide) (by decide) (by decide) 0 _).set (blk_put hx0.out 0 (.bool false) rfl) (by decide) (by decide) (by decide) 1 _
      · rw [decide_eq_false h1] at hnil
        have hsz0 : 0 < (str v).size := by
          rw [str_size]
          cases v with
          | nil => exact absurd rfl h1
          | cons a t => simp
        by_cases h2 : 9 < v.length
        · have hsz : decide ((9 : Int) < ((str v).size : Int)) = true := by rw [str_size]; simp; omega
          clear h1 h2 hok htr
          generalize str v = S at hpre hnil hvs hsz hsz0
          go_wp2_with (go_at_call 81; refine (hpre.out _).mono ?_; rintro e w1 ⟨rfl, rfl⟩)
          have hx4 := blk_put (blk_put hx0.out 0 (.bool false) rfl) 1 (.int .i64 0) rfl
          have z0 := (blk_cell hx4 0).trans (show _ = some (Value.bool false) from rfl)
          have z1 := (blk_cell hx4 1).trans (show _ = some (Value.int .i64 0) from rfl)
          refine bodyPost_ret (v := .tuple #[.agg #[.bool false, .int .i64 0], .bool false]) (by simp [results, Tryz.results83, go_sem, z0, z1]) rfl ⟨rfl, ?_, RdX.same ?_⟩
          · exact ((hfr0.out.set (p := ⟨g, 0, none⟩) (Nat.le_of_eq hg.out) _).set (p := ⟨g, 1, none⟩) (Nat.le_of_eq hg.out) _)
          · exact (h0.out.set hx0.out (by decide) (by decide) (by decide) 0 _).set (blk_put hx0.out 0 (.bool false) rfl) (by decide) (by decide) (by decide) 1 _
        · have hsz : decide ((9 : Int) < ((str v).size : Int)) = false := by rw [str_size]; simp; omega
          have hv0 := str_head v hsz0
          by_cases h3 : v.head? = some 48
          · rw [decide_eq_true h3] at hv0
            clear h1 h2 h3 hok htr
            generalize str v = S at hpre hnil hvs hsz hsz0 hv0
            go_wp2_with (go_at_call 81; refine (hpre.out _).mono ?_; rintro e w1 ⟨rfl, rfl⟩)
            have hx4 := blk_put (blk_put hx0.out 0 (.bool false) rfl) 1 (.int .i64 0) rfl
            have z0 := (blk_cell hx4 0).trans (show _ = some (Value.bool false) from rfl)
            have z1 := (blk_cell hx4 1).trans (show _ = some (Value.int .i64 0) from rfl)
            refine bodyPost_ret (v := .tuple #[.agg #[.bool false, .int .i64 0], .bool false]) (by simp [results, Tryz.results83, go_sem, z0, z1]) rfl ⟨rfl, ?_, RdX.same ?_⟩
            · exact ((hfr0.out.set (p := ⟨g, 0, none⟩) (Nat.le_of_eq hg.out) _).set (p := ⟨g, 1, none⟩) (Nat.le_of_eq hg.out) _)
            · exact (h0.out.set hx0.out (by decide) (by decide) (by decide) 0 _).set (blk_put hx0.out 0 (.bool false) rfl) (by decide) (by decide) (by decide) 1 _
          · rw [decide_eq_false h3] at hv0
            have h4 : Lib.trimS v digitSet ≠ [] := fun e => hok ((okNum_iff v).2 ⟨h1, by omega, h3, (trim_digits v).1 e⟩)
            have hn2 := str_nil (Lib.trimS v digitSet)
            rw [decide_eq_false h4] at hn2
            clear h1 h2 h3 h4 hok
            generalize str (Lib.trimS v digitSet) = S2 at hn2 htr
            generalize str v = S at hpre hnil hvs hsz hsz0 hv0 htr
            go_wp2_with (first | (go_at_call 81; refine (hpre.out _).mono ?_; rintro e w1 ⟨rfl, rfl⟩) | (go_at_call 96; refine (htr.out _).mono ?_; rintro e w2 ⟨rfl, hb2⟩; have hx2 := Aside0.mk ((hb2.block g (blk_lt hx0.out)).trans hx0.out); have f0 := blk_frozen hx2.out 0; have f1 := blk_frozen hx2.out 1; have c0 := (blk_cell hx2.out 0).trans (show _ = some (Value.bool false) from rfl); have c1 := (blk_cell hx2.out 1).trans (show _ = some (Value.int .i64 0) from rfl); replace hb2 := Aside0.mk hb2))
            have hx4 := blk_put (blk_put hx2.out 0 (.bool false) rfl) 1 (.int .i64 0) rfl
            have z0 := (blk_cell hx4 0).trans (show _ = some (Value.bool false) from rfl)
            have z1 := (blk_cell hx4 1).trans (show _ = some (Value.int .i64 0) from rfl)
            refine bodyPost_ret (v := .tuple #[.agg #[.bool false, .int .i64 0], .bool false]) (by simp [results, Tryz.results83, go_sem, z0, z1]) rfl ⟨rfl, ?_, RdX.same ?_⟩
            · exact (((hfr0.out.thenX (Fr.of_below hb2.out F) (fun b q => .inl q)).set (p := ⟨g, 0, none⟩) (Nat.le_of_eq hg.out) _).set (p := ⟨g, 1, none⟩) (Nat.le_of_eq hg.out) _)
            · exact ((h0.out.below hb2.out).set hx2.out (by decide) (by decide) (by decide) 0 _).set (blk_put hx2.out 0 (.bool false) rfl) (by decide) (by decide) (by decide) 1 _
  · have hqe : termP ns fr s = (((false, if rightName (str s) then ((findN (addN (ns ++ fr) s) s : Nat) : Int) else 0), rightName (str s)), if rightName (str s) then freshN ns fr s else fr) := by
      unfold termP freshN
      rw [if_neg hq]
    rw [decide_eq_false hq, if_neg hq] at hpre
    have hcall := Aside0.mk (symr_walk h0.out s (by omega) hl)
    rw [hr.out] at hqe
    generalize rightName (str s) = b at hcall hqe
    generalize (if b = true then ((findN (addN (ns ++ fr) s) s : Nat) : Int) else 0) = v at hcall hqe
    generalize (if b = true then freshN ns fr s else fr) = fr' at hcall hqe
    obtain ⟨⟨⟨rfl, rfl⟩, rfl⟩, rfl⟩ : ((qb = false ∧ qn = v) ∧ qo = b) ∧ qf = fr' := by simpa [Prod.ext_iff] using hqe
    clear hqe
    replace hq := Aside0.mk hq
    replace hg := Aside0.mk hg
    go_wp2_with (first | (go_at_call 81; refine (hpre.out _).mono ?_; rintro e w1 ⟨rfl, rfl⟩) | (go_at_call 44; refine hcall.out.mono ?_; rintro e w2 ⟨rfl, hfr, hrd⟩; have hx2 := Aside0.mk ((hfr.ch.block g (blk_lt hx0.out) hFg.out).trans hx0.out); have f0 := blk_frozen hx2.out 0; have f1 := blk_frozen hx2.out 1; have c0 := (blk_cell hx2.out 0).trans (show _ = some (Value.bool false) from rfl); have c1 := (blk_cell hx2.out 1).trans (show _ = some (Value.int .i64 0) from rfl); replace hfr := Aside0.mk hfr; replace hrd := Aside0.mk hrd))
    have hx4 := blk_put (blk_put hx2.out 0 (.bool false) rfl) 1 (.int .i64 qn) rfl
    have z0 := (blk_cell hx4 0).trans (show _ = some (Value.bool false) from rfl)
    have z1 := (blk_cell hx4 1).trans (show _ = some (Value.int .i64 qn) from rfl)
    obtain ⟨F', hF', hrd'⟩ := hrd.out
    refine bodyPost_ret (v := .tuple #[.agg #[.bool false, .int .i64 qn], .bool qo]) (by simp [results, Tryz.results83, go_sem, z0, z1]) rfl ⟨rfl, ?_, F', fun b q => (hF' b q).imp id (fun q => ?_), ?_⟩
    · exact (((hfr0.out.thenX hfr.out (fun b q => .inl q)).set (p := ⟨g, 0, none⟩) (Nat.le_of_eq hg.out) _).set (p := ⟨g, 1, none⟩) (Nat.le_of_eq hg.out) _)
    · have := hz0.out; omega
    · exact (hrd'.set hx2.out (by decide) (by decide) (by decide) 0 _).set (blk_put hx2.out 0 (.bool false) rfl) (by decide) (by decide) (by decide) 1 _
end Go.Proofs.YtkbkkceeolclmaaGreatDoor.X
namespace Go.Proofs.YtkbkkceeolclmaaGreatDoor.X
open Go.RowKit Go.TX Go.Proofs.YtkbkkceeolclmaaGreatDoorW.PrintWords Go.Proofs.YtkbkkceeolclmaaGreatDoorL
/-- The words behind the first n of a row that is not empty. -/
theorem cut_words {w : World} {S : Nat → Prop} {b o c : Nat} {ws : List (List UInt8)} (h : WordsAt w S (.slice (some ⟨b, o, none⟩) ws.length c) ws) (n : Nat) (hn : n ≤ ws.length) :
    WordsAt w S (.slice (if c = n then some ⟨b, o, none⟩ else some ⟨b, o + n, none⟩) (ws.length - n) (c - n)) (ws.drop n) := by
  obtain ⟨A0, c0, e, h1, h2, h3⟩ := h
  cases e
  refine ⟨_, c - n, by rw [List.length_drop], by rw [List.length_drop]; omega, by omega, fun j hj => ?_⟩
  rw [List.length_drop] at hj
  obtain ⟨b', o', e, hb, hs, hc⟩ := h3 (n + j) (by omega)
  cases e
  have hcn : ¬ c = n := by omega
  rw [if_neg hcn]
  refine ⟨b, o + n, rfl, hb, hs, ?_⟩
  rw [List.getElem_drop, Nat.add_assoc]
  exact hc
theorem Rd.write {w : World} {T F : Nat → Prop} {r tb sm : Nat} {Wv Fv V : Value} {ws ws' ns fr : List (List UInt8)} (h : Rd w T F r tb Wv Fv sm ws ns fr) (hV : WordsAt w (fun b => F b ∨ T b) V ws') : Rd (w.setCell ⟨r, 0, none⟩ V) T F r tb V Fv sm ws' ns fr := by
  have hz : (w.setCell ⟨r, 0, none⟩ V).heap.size = w.heap.size := by simp [World.setCell]
  refine ⟨blk_put h.head 0 V rfl, ?_, owns_move h.fresh (fun b _ _ ho => Below.heap_setCell _ _ _ _ (h.fresh_ne ho)), h.seen.of_heap (Below.heap_setCell _ _ _ _ (ne_map h.seen h.head)), h.table.set h.head (by decide) (by decide) 0 V, h.fr_, h.fs, h.ff, fun b hb => hz ▸ h.tlt b hb, fun b hb => hz ▸ h.flt b hb, h.apart⟩
  obtain ⟨A, c, e1, e2, e3, e4⟩ := hV
  refine ⟨A, c, e1, e2, e3, fun i hi => ?_⟩
  obtain ⟨b, o, e, ⟨cs2, hcs⟩, hn, hcell⟩ := e4 i hi
  have hbl : (w.setCell ⟨r, 0, none⟩ V).heap[b]? = w.heap[b]? := Below.heap_setCell _ _ _ _ (ne_type hcs h.head (by decide))
  exact ⟨b, o, e, ⟨cs2, hbl.trans hcs⟩, hn, (World.cell?_of_block hbl).trans hcell⟩
theorem Fr.write {w W : World} {F : Nat → Prop} (h : Fr w W F) {p : Addr} (hp : p.block < w.heap.size → F p.block) (hn : ∀ cs : Array Value, w.heap[p.block]? ≠ some (.cells cs 72 (0, 0))) (u : Value) : Fr w (W.setCell p u) F :=
  ⟨h.ch.setCell p hp u, fun b cs e => (Below.heap_setCell _ _ _ _ (fun q => hn cs (q ▸ e))).trans (h.k72 b cs e)⟩
theorem Fr.below' {w W W2 : World} {F : Nat → Prop} (h : Fr w W F) (hb : Below W.heap.size W W2) : Fr w W2 F := h.then (Fr.of_below hb (fun _ => False)) (fun _ _ q => q.elim)
end Go.Proofs.YtkbkkceeolclmaaGreatDoor.X
