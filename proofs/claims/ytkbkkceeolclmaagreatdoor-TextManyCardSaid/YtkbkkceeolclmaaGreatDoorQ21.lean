/- All new names are interned, or none is. -/
import Derived.Test.YtkbkkceeolclmaaGreatDoorQ20
set_option linter.unusedVariables false
set_option linter.unusedSimpArgs false
namespace Go.TX
theorem internN_new {ns : List (List UInt8)} {s : List UInt8} (hr : rightName (str s) = true) (hl : ns.length < 4096) (hm : s ∉ ns) : internN ns s = ns ++ [s] := by
  unfold internN addN
  rw [if_pos ⟨hr, hl⟩, if_neg hm]
end Go.TX
namespace Go.Proofs.YtkbkkceeolclmaaGreatDoor.X
open Go.RowKit Go.TX Go.Proofs.YtkbkkceeolclmaaGreatDoorW.PrintWords Go.Proofs.YtkbkkceeolclmaaGreatDoorL
attribute [local go_sem] YReg.envOf
set_option maxRecDepth 100000 in
set_option maxHeartbeats 4000000 in
theorem keep_walk {w : World} {T F : Nat → Prop} {r tb : Nat} {ws ns fr : List (List UInt8)} (h : RdE w T F r tb ws ns fr) (hN : Names (ns ++ fr)) (hl : ns.length + fr.length ≤ 100000) :
    Calls Tryz.prog 37 #[.pointer (some ⟨r, 0, none⟩)] w fun e W => e = .returned (.bool (decide (ns.length + fr.length ≤ 4096))) ∧ Fr w W T ∧ ∃ T', (∀ b, T' b → T b ∨ w.heap.size ≤ b) ∧ Tb W T' tb (if ns.length + fr.length ≤ 4096 then ns ++ fr else ns) := by
  obtain ⟨Wv, Fv, sm, h⟩ := h
  obtain ⟨Af, cf, rfl⟩ := owns_form h.fresh
  have hh := Aside0.mk h
  have k19 : Aside0 (∀ W', YReg.Ext w.drew W' → Calls Tryz.prog 19 #[.pointer (some ⟨tb, 0, none⟩)] W' fun e W2 => ∃ u, e = .returned u ∧ YReg.Ext W' W2 ∧ u = .int .i64 (ns.length : Nat)) := ⟨fun W' hE => (len_walk (h.table.below hE.of_drew)).mono fun e W2 ⟨h1, h2⟩ => ⟨_, h1, h2 ▸ YReg.Ext.refl _, rfl⟩⟩
  have s1 : ∀ W', YReg.Ext w.drew W' → W'.cell? ⟨r, 1, none⟩ = some (.pointer (some ⟨tb, 0, none⟩)) := fun W' hE => (blk_cell ((hE.of_drew.block _ (blk_lt h.head)).trans h.head) 1).trans rfl
  have s2 : ∀ W', YReg.Ext w.drew W' → W'.cell? ⟨r, 2, none⟩ = some (.slice Af fr.length cf) := fun W' hE => (blk_cell ((hE.of_drew.block _ (blk_lt h.head)).trans h.head) 2).trans rfl
  clear h
  obtain ⟨okv, hok⟩ : ∃ o, decide (ns.length + fr.length ≤ 4096) = o := ⟨_, rfl⟩
  obtain ⟨nz, hnz⟩ : ∃ o, (if ns.length + fr.length ≤ 4096 then ns ++ fr else ns) = o := ⟨_, rfl⟩
  rw [hok, hnz]
  replace hok := Aside0.mk hok
  replace hnz := Aside0.mk hnz
  go_enter Tryz.func37, Tryz.ntmps37
  go_upto_region 1 with fail
  refine YReg.wp_region_tail 11 none YReg.Ext YReg.Ext YReg.Ext.refl YReg.Ext.trans YReg.Ext.trans (fun _ _ h => h) (by kernel_rfl) (by kernel_rfl) (by kernel_rfl) [(0, .det (.pointer (some ⟨r, 0, none⟩)))] (YReg.base_cons rfl YReg.base_nil) ?_
  simp only [List.take_succ_cons, List.take_zero, List.drop_succ_cons, List.drop_zero]
  repeat (first
    | (refine YReg.walk_calld (by decide) k19.out rfl (by kernel_rfl) (by kernel_rfl) _ rfl (by kernel_rfl) (by kernel_rfl) ?_)
    | (refine YReg.run_1 (by decide) YReg.Ext.refl rfl rfl _ rfl (by kernel_rfl) (by kernel_rfl) ?_; apply Exists.intro; refine ⟨fun ρ W hE h1 => ?_, ?_⟩; (go_simp; try rfl))
    | (refine YReg.run_2 (by decide) YReg.Ext.refl rfl rfl rfl _ rfl (by kernel_rfl) (by kernel_rfl) ?_; apply Exists.intro; refine ⟨fun ρ W hE h1 h2 => ?_, ?_⟩; (go_simp; try rfl)))
  intro ρ W1 hE hn
  simp only [Act.put, List.setIfInBounds_toArray, List.set_cons_zero, List.set_cons_succ]
  have hE1 := Aside0.mk hE.of_drew
  have h1 := Aside0.mk (hh.out.below hE.of_drew)
  clear hn hE s1 s2 k19
  have t1 := (blk_cell h1.out.head 1).trans (show _ = some (Value.pointer (some ⟨tb, 0, none⟩)) from rfl)
  have t2 := (blk_cell h1.out.head 2).trans (show _ = some (Value.slice Af fr.length cf) from rfl)
  by_cases hb : ns.length + fr.length ≤ 4096
  · obtain rfl : okv = true := by rw [← hok.out, decide_eq_true hb]
    obtain rfl : nz = ns ++ fr := by rw [← hnz.out, if_pos hb]
    have hb' : ¬ (4096 : Int) < (ns.length : Int) + fr.length := by omega
    replace hN := Aside0.mk hN
    go_upto_region 4 with fail
    go_loopw [22] (fun i wr => ∃ (j : Nat) (T' : Nat → Prop), i = .int .i64 j ∧ j ≤ fr.length ∧ Fr w wr T ∧ (∀ b, T' b → T b ∨ w.heap.size ≤ b) ∧ Tb wr T' tb (ns ++ fr.take j)) (fun i _ => fr.length - (intOf i).toNat)
    case atStart => exact ⟨0, T, rfl, Nat.zero_le _, Fr.of_below hE1.out T, fun b q => .inl q, by simpa using h1.out.table⟩
    case round =>
      obtain ⟨j, T', rfl, hj, hfr, hT', htb⟩ := hrel
      clear t1 t2 h1 hE1
      clear W1
      have hFT : ∀ b, b < w.heap.size → F b → wr.heap[b]? = w.heap[b]? := fun b hlt q => hfr.ch.block b hlt (fun q2 => hh.out.apart b q2 q)
      by_cases hlt : j < fr.length
      · obtain ⟨g, c, he, _, hgl⟩ := owns_form1 hh.out.fresh (by omega)
        cases he
        have hc := hh.out.fresh.cells (g := g) rfl j (.string (str fr[j])) (by simp [cellsN, hlt])
        have ea : (⟨g, 0, none⟩ : Addr).add j = ⟨g, 0 + j, none⟩ := by
          unfold Addr.add
          split
          · rename_i e; subst e; rfl
          · simp
        rw [ea, Nat.zero_add] at hc
        have hc2 := (World.cell?_of_block (a := ⟨g, j, none⟩) (hFT g hgl (hh.out.ff g rfl))).trans hc
        have hhr := (hFT r (blk_lt hh.out.head) hh.out.fr_).trans hh.out.head
        have t1 := (blk_cell hhr 1).trans (show _ = some (Value.pointer (some ⟨tb, 0, none⟩)) from rfl)
        have hlc : fr.length ≤ cf := by
          rcases hh.out.fresh.2 with ⟨e2, _⟩ | ⟨g2, cap2, cur2, e2, _, _, q1, q2, _⟩
          · cases e2
          · cases e2
            exact q1
        have hmem : fr[j] ∈ ns ++ fr := by simp
        have hrn := hN.out.2 fr[j] hmem
        have hrs := (right_size hrn).2
        rw [str_size] at hrs
        have hnot : fr[j] ∉ ns ++ fr.take j := by
          have hnd := hN.out.1
          rw [show ns ++ fr = (ns ++ fr.take j) ++ fr[j] :: fr.drop (j + 1) by rw [List.append_assoc, ← List.drop_eq_getElem_cons hlt, List.take_append_drop]] at hnd
          rw [List.nodup_append] at hnd
          exact fun q => hnd.2.2 _ q fr[j] (by first | exact List.mem_cons_self | (rw [List.drop_eq_getElem_cons hlt]; exact List.mem_cons_self)) rfl
        have hin := internN_new hrn (by rw [List.length_append, List.length_take]; omega) hnot
        have hcall := intern_walk htb fr[j] (by omega) (by rw [List.length_append, List.length_take]; omega)
        rw [hin, List.append_assoc, ← List.take_succ_eq_append_getElem hlt] at hcall
        replace hcall := Aside0.mk hcall
        replace hfr := Aside0.mk hfr
        replace hT' := Aside0.mk hT'
        clear hc hFT hhr hmem hrn hrs hnot hin htb ea
        go_wp2_with (go_at_call 21; refine hcall.out.mono ?_; rintro e w3 ⟨⟨u3, rfl⟩, hfr3, htb3⟩; replace hfr3 := Aside0.mk hfr3; replace htb3 := Aside0.mk htb3)
        go_roundw
        case rel => exact ⟨j + 1, New wr T', by go_num, by omega, hfr.out.thenX hfr3.out hT'.out, fun b q => q.elim (hT'.out b) (fun q => .inr (Nat.le_trans hfr.out.ch.size q)), htb3.out⟩
        case measure => simp [intOf]; omega
      · obtain rfl : j = fr.length := by omega
        rw [List.take_length] at htb
        replace hfr := Aside0.mk hfr
        replace hT' := Aside0.mk hT'
        replace htb := Aside0.mk htb
        clear hFT
        go_wp2
        go_ret
        exact ⟨rfl, hfr.out, T', hT'.out, htb.out⟩
  · obtain rfl : okv = false := by rw [← hok.out, decide_eq_false hb]
    obtain rfl : ns = nz := by rw [← hnz.out, if_neg hb]
    have hb' : (4096 : Int) < (ns.length : Int) + fr.length := by omega
    go_wp2
    go_ret
    exact ⟨rfl, Fr.of_below hE1.out T, T, fun b q => .inl q, h1.out.table⟩
end Go.Proofs.YtkbkkceeolclmaaGreatDoor.X
