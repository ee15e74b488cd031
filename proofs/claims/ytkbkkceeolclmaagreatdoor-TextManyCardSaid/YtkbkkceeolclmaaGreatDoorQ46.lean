/- The law TextParses. Many names, each of its own. The law TextMany. -/
import Derived.Laws.BytesArg
import Derived.Test.YtkbkkceeolclmaaGreatDoorQ41
import Derived.Test.YtkbkkceeolclmaaGreatDoorQ45
import Derived.Test.YtkbkkceeolclmaaGreatDoorQ34
import Derived.Test.YtkbkkceeolclmaaGreatDoorQ15
import Derived.Test.YtkbkkceeolclmaaGreatDoorQ08
import Derived.Test.YtkbkkceeolclmaaGreatDoorQ40
set_option linter.unusedVariables false
set_option linter.unusedSimpArgs false
namespace Go.TX
theorem rparse_size (ns : List (List UInt8)) (s : List UInt8) : csizeL (rparse ns s).1.2 ≤ s.length + 1 ∧ (rparse ns s).1.1.length ≤ s.length := by
  have hb := words_bound s
  unfold rparse
  split
  · simp [csizeL]
  · rename_i nm l hw
    rw [hw] at hb
    cases hp : pconds (l.length + 1) false l ns with
    | none => simp [csizeL]
    | some p =>
      obtain ⟨n1, out, r⟩ := p
      have h1 := pconds_size _ _ _ _ _ _ _ hp
      have h2 := hb.2 nm (by simp)
      have h3 := hb.1
      simp only [List.length_cons] at h3
      simp only
      split
      · simp [csizeL]
      · split
        · simp [csizeL]
        · split
          · simp [csizeL]
          · exact ⟨show csizeL out ≤ _ by omega, h2⟩
end Go.TX
namespace Go.Proofs.YtkbkkceeolclmaaGreatDoor.X
open Go.RowKit Go.TX Go.Proofs.YtkbkkceeolclmaaGreatDoorW.PrintWords Go.Proofs.YtkbkkceeolclmaaGreatDoorL
attribute [local go_sem] YReg.envOf
end Go.Proofs.YtkbkkceeolclmaaGreatDoor.X
namespace Go.TX
/-- Name i. -/
def wN (i : Nat) : List UInt8 := [UInt8.ofNat (97 + i / 256), UInt8.ofNat (97 + i / 16 % 16), UInt8.ofNat (97 + i % 16)]
def manyN (k : Nat) : List (List UInt8) := (List.range k).map wN
theorem ofNat_toNat {n : Nat} (h : n < 256) : (UInt8.ofNat n).toNat = n := by
  rw [UInt8.toNat_ofNat']
  omega
theorem okN_low {n : Nat} (h1 : 97 ≤ n) (h2 : n ≤ 122) : okN n = true := by
  unfold okN
  rw [decide_eq_true h1, decide_eq_true h2]
  rfl
theorem wN_right {i : Nat} (h : i < 4096) : rightName (str (wN i)) = true := by
  unfold rightName
  have e : (str (wN i)).size = 3 := by rw [str_size]; rfl
  rw [e]
  have hb : (str (wN i)).data.toList = wN i := rfl
  rw [hb]
  simp only [wN, List.all_cons, List.all_nil, Bool.and_true, Bool.and_eq_true, decide_eq_true_eq]
  exact ⟨by omega, by rw [ofNat_toNat (by omega)]; exact okN_low (by omega) (by omega), by rw [ofNat_toNat (by omega)]; exact okN_low (by omega) (by omega), by rw [ofNat_toNat (by omega)]; exact okN_low (by omega) (by omega)⟩
theorem wN_inj {i j : Nat} (hi : i < 4096) (hj : j < 4096) (h : wN i = wN j) : i = j := by
  unfold wN at h
  simp only [List.cons.injEq, and_true] at h
  obtain ⟨h1, h2, h3⟩ := h
  have e1 := congrArg UInt8.toNat h1
  have e2 := congrArg UInt8.toNat h2
  have e3 := congrArg UInt8.toNat h3
  rw [ofNat_toNat (by omega), ofNat_toNat (by omega)] at e1 e2 e3
  omega
theorem manyN_succ (k : Nat) : manyN (k + 1) = manyN k ++ [wN k] := by
  unfold manyN
  rw [List.range_succ, List.map_append]
  rfl
theorem manyN_len (k : Nat) : (manyN k).length = k := by simp [manyN]
theorem manyN_new {k : Nat} (h : k < 4096) : wN k ∉ manyN k := by
  intro hm
  unfold manyN at hm
  obtain ⟨j, hj, e⟩ := List.mem_map.1 hm
  have hj := List.mem_range.1 hj
  have := wN_inj (by omega) h e
  omega
theorem manyN_names : ∀ (k : Nat), k ≤ 4096 → Names (manyN k)
  | 0, _ => ⟨List.nodup_nil, fun _ h => by simp [manyN] at h⟩
  | k + 1, h => by
    have ih := manyN_names k (by omega)
    have hn := manyN_new (k := k) (by omega)
    rw [manyN_succ]
    refine ⟨List.nodup_append.2 ⟨ih.1, by simp, fun a ha b hb e => ?_⟩, fun s hs => ?_⟩
    · rw [List.mem_singleton] at hb
      subst hb e
      exact hn ha
    · rcases List.mem_append.1 hs with hs | hs
      · exact ih.2 s hs
      · rw [List.mem_singleton] at hs
        subst hs
        exact wN_right (by omega)
theorem manyN_intern {k : Nat} (h : k < 4096) : internN (manyN k) (wN k) = manyN (k + 1) := by
  unfold internN
  rw [if_pos ⟨wN_right h, by rw [manyN_len]; exact h⟩, manyN_succ]
  unfold addN
  rw [if_neg (manyN_new h)]
end Go.TX
namespace Go.Proofs.YtkbkkceeolclmaaGreatDoor.X
open Go.RowKit Go.TX Go.Proofs.YtkbkkceeolclmaaGreatDoorW.PrintWords Go.Proofs.YtkbkkceeolclmaaGreatDoorW.PrintLast Go.Proofs.YtkbkkceeolclmaaGreatDoorW.PrintMore Go.Proofs.YtkbkkceeolclmaaGreatDoorL
attribute [local go_sem] YReg.envOf
attribute [local go_sem high] eq56s
abbrev wCells (q : Nat) : Obj := .cells #[.int .u8 (97 + (q : Int) / 256), .int .u8 (97 + (q : Int) / 16 % 16), .int .u8 (97 + (q : Int) % 16)] 5
theorem conv_w (q : Nat) (w : World) : (convert 52 9 (.slice (some ⟨w.heap.size, 0, none⟩) 3 3)).run Tryz.prog (w.alloc (wCells q)) = .ok (.string (str (wN q))) (w.alloc (wCells q)) := by
  have h := run_convert_bytes_arg (P := Tryz.prog) (w.alloc (wCells q)) 52 5 Tryz.underlying52 Tryz.underlying5 w.heap.size 0 3 3 [97 + (q : Int) / 256, 97 + (q : Int) / 16 % 16, 97 + (q : Int) % 16] rfl (fun i hi => by
    have hb := blk_new w (wCells q)
    match i, hi with
    | 0, _ => exact (blk_cell hb 0).trans rfl
    | 1, _ => exact (blk_cell hb 1).trans rfl
    | 2, _ => exact (blk_cell hb 2).trans rfl) 9 Tryz.underlying9
  exact h
theorem tight2 {w : World} {F : Nat → Prop} {t : Nat} {ns : List (List UInt8)} (h : Tb w F t ns) : ∃ G : Nat → Prop, Tb w G t ns ∧ (∀ b, G b → F b) ∧ ∀ b, G b → b < w.heap.size := ⟨_, tight' h, fun _ q => q.1, fun _ q => q.2⟩
set_option maxRecDepth 100000 in
set_option maxHeartbeats 8000000 in
theorem law_many (n : Nat) (hn : n ≤ 255) (s : List UInt8) (w : World) (hE : Env w) :
    Calls Tryz.prog 6 #[.int .u8 n, .string (str s)] w fun e W => e = .returned (.bool true) ∧ Below w.heap.size w W := by
  have h20 := Aside0.mk (new20 w)
  replace hE := Aside0.mk hE
  obtain ⟨X, hX⟩ : ∃ X, str s = X := ⟨_, rfl⟩
  rw [hX]
  have hXs : X.size = s.length := by rw [← hX, str_size]
  replace hX := Aside0.mk hX
  replace hXs := Aside0.mk hXs
  by_cases h200 : 200 < s.length
  · have hsz : decide ((200 : Int) < (X.size : Int)) = true := decide_eq_true (by rw [hXs.out]; omega)
    go_enter Tryz.func6, Tryz.ntmps6
    go_wp2_with (first
      | (go_at_call 20; refine h20.out.mono ?_; rintro e w1 ⟨t, rfl, hb1, ht1⟩; have haw := Aside0.mk (awake_walk w1 (hE.out.of hb1 (Nat.le_refl _))); replace hb1 := Aside0.mk hb1; clear ht1)
      | (go_at_call 10; refine haw.out.mono ?_; rintro e w2 ⟨rfl, hb2⟩; replace hb2 := Aside0.mk hb2))
    go_ret
    exact ⟨rfl, hb1.out.trans (hb2.out.mono hb1.out.size)⟩
  have hsz : decide ((200 : Int) < (X.size : Int)) = false := decide_eq_false (by rw [hXs.out]; omega)
  obtain ⟨m, hm, hm1, hm2⟩ : ∃ m : Nat, (4096 : Int) - (n : Int) % 4 = (m : Int) ∧ 4093 ≤ m ∧ m ≤ 4096 := by
    exact ⟨4096 - n % 4, by omega, by omega, by omega⟩
  go_enter Tryz.func6, Tryz.ntmps6
  go_upto_region 6 with (go_at_call 20; refine h20.out.mono ?_; rintro e w1 ⟨t, rfl, hb1, ht1⟩; replace hb1 := Aside0.mk hb1; replace ht1 := Aside0.mk ht1)
  clear hm
  go_loopw [36, 6] (fun i V wr => ∃ q : Nat, i = .int .i64 q ∧ q ≤ m ∧ TS w wr t V (manyN q)) (fun i _ _ => m - (intOf i).toNat)
  case atStart => exact ⟨0, rfl, Nat.zero_le _, _, fun _ => False, ht1.out, Kd.R_nil _ _ _ _ _, fun b q => q, fun b q => q.elim, fun b _ q => q.elim, hb1.out⟩
  case round =>
    obtain ⟨q, rfl, hq, hts⟩ := hrel
    clear ht1 hb1
    clear w1
    obtain ⟨Av, cv, rfl, hcv, -⟩ : ∃ Av cv, _ = Value.slice Av (manyN q).length cv ∧ (manyN q).length ≤ cv ∧ True := by
      obtain ⟨T, P, hT, hP, hTb, hPb, hTP, hb1⟩ := id hts
      obtain ⟨Av, cv, e, hcv, -⟩ := hP.reads
      exact ⟨Av, cv, e, hcv, trivial⟩
    replace hts := Aside0.mk hts
    by_cases hlt : q < m
    · have hcw := conv_w q wr
      have hA := (Below.refl wr.heap.size wr).alloc (Nat.le_refl _) (wCells q)
      replace hts := Aside0.mk (hts.out.below hA)
      go_upto_region 9 with fail
      clear hcw hA
      generalize wr.alloc (wCells q) = Wa at hts ⊢
      obtain ⟨T, P, hT, hP, hTb, hPb, hTP, hB⟩ := id hts.out
      have hP2 : Kd.R Kd.string 9 Wa w.heap.size (fun b => P b ∨ Wa.heap.size ≤ b) (.slice Av (manyN q).length cv) ((manyN q).map str) := DN.mono hP (fun b q => .inl q)
      have hTr := Aside0.mk (fun (W : World) (hg : Wa.grownBy W (Value.ownBlock (.slice Av (manyN q).length cv))) => hT.move (W := W) (fun b qb hl => hg.block b hl (fun e => hTP b qb (hP.1 b e.symm))))
      replace hP2 := Aside0.mk hP2
      replace hTb := Aside0.mk hTb
      replace hPb := Aside0.mk hPb
      replace hTP := Aside0.mk hTP
      replace hB := Aside0.mk hB
      have hml := manyN_len q
      replace hml := Aside0.mk hml
      clear hT hP hts
      go_wp2_with (first
        | (at_builtin; refine Kd.R_append Kd.string (w0 := w) w.heap.size rfl (.tmp 54) (.tmp 56) 22 9 (.string ⟨#[]⟩) 16 rfl Tryz.underlying22 info9 rfl (by decide) (by omega) (.slice Av (manyN q).length cv) ((manyN q).map str) (str (wN q)) [.string (str (wN q))] (fun b => P b ∨ Wa.heap.size ≤ b) (fun _ => False) rfl rfl ?aP (fun _ hk => hk.elim) ?aF ?aO ?aB ?aS ?aL ?_; (case aP => exact rfl); (case aF => exact fun k_ hk => .inr hk); (case aO => exact hP2.out); (case aB => exact hB.out); (case aS => exact hB.out.size); (case aL => rw [List.length_map, hml.out]; omega); intro v3 w3 ho3 hb3 hg3 hat3; replace ho3 : DN w.heap.size (fun b => P b ∨ Wa.heap.size ≤ b) w3 v3 (manyN (q + 1)) := (by have := ho3; rw [show (manyN q).map str ++ [str (wN q)] = (manyN (q + 1)).map str by rw [manyN_succ, List.map_append]; rfl] at this; exact this); obtain ⟨Av3, cv3, rfl, hcv3, -⟩ := ho3.reads; have ht3 := Aside0.mk (hTr.out _ hg3); have hi := Aside0.mk (intern_walk ht3.out (wN q) (by simp [wN]) (by rw [hml.out]; omega)); have hsz3 := Aside0.mk hg3.size; replace ho3 := Aside0.mk ho3.tight; replace hb3 := Aside0.mk hb3; replace hg3 := Aside0.mk hg3; clear hat3)
        | (go_at_call 21; refine hi.out.mono ?_; rintro e w4 ⟨⟨u4, rfl⟩, hfr4, ht4⟩; replace hfr4 := Aside0.mk hfr4; replace ht4 := Aside0.mk ht4))
      go_roundw
      case rel =>
        have hT4 := tight' ht4.out
        rw [manyN_intern (by omega)] at hT4
        refine ⟨q + 1, by go_num, by omega, _, _, hT4, ho3.out.step fun b k hl => hfr4.out.ch.block b hl (fun k2 => ?_), fun b k => ⟨?_, k.2⟩, fun b k => ⟨k.2.1, Nat.lt_of_lt_of_le k.2.2 hfr4.out.ch.size⟩, fun b k k2 => ?_, hb3.out.trans (hfr4.out.below hb3.out.size (fun b k => (hTb.out b k).1))⟩
        · rcases k.1 with k1 | k1
          · exact hTP.out b k2 k1
          · have := (hTb.out b k2).2; omega
        · rcases k.1 with k1 | k1
          · exact (hTb.out b k1).1
          · have := hb3.out.size; omega
        · rcases k.1 with k3 | k3
          · rcases k2.1 with k4 | k4
            · exact hTP.out b k3 k4
            · have := (hTb.out b k3).2; omega
          · have := k2.2.2; omega
      case measure => simp [intOf]; omega
    · obtain rfl : q = m := by omega
      have hnsn := Aside0.mk (manyN_names q hm2)
      have hnl : (manyN q).length ≤ 4096 := by rw [manyN_len]; exact hm2
      generalize manyN q = ns at hts hnsn hnl hcv ⊢
      clear hlt hq hm1
      have hnm := tparse_names hnsn.out s
      obtain ⟨⟨⟨ra, rb, rc⟩, now, code⟩, hres⟩ : ∃ q, tparse ns s = q := ⟨_, rfl⟩
      have hrt : Aside0 (∀ P W, DN 0 P W (.slice Av ns.length cv) ns → Calls Tryz.prog 23 #[.string X, .slice Av ns.length cv] W (RTPost P W ((ra, rb, rc), now, code))) := ⟨fun P W q => by
        have := rtparse_walk q (by omega) s (by omega)
        rwa [hres, hX.out] at this⟩
      obtain ⟨T, P, hT, hP, hTb, hPb, hTP, hB⟩ := id hts.out
      have h22 := tparse_walk hT (fun b q => (hTb b q).2) hnsn.out (by omega) (hE.out.of hB (Nat.le_refl _)) s (by omega)
      rw [hres, hX.out] at h22
      rw [hres] at hnm
      obtain ⟨hnowN, hnowl⟩ := hnm
      simp only at hnowN hnowl
      replace hnowN := Aside0.mk hnowN
      replace h22 := Aside0.mk h22
      have hnext : Aside0 (∀ (W2 : World) (T' : Nat → Prop), Fr wr W2 T → (∀ b, T' b → T b ∨ wr.heap.size ≤ b) → Tb W2 T' t now → DN 0 (fun b => P b) W2 (.slice Av ns.length cv) ns ∧ Below w.heap.size w W2 ∧ (∀ b, T' b → w.heap.size ≤ b) ∧ (∀ b, T' b → ¬ P b)) := ⟨fun W2 T' hf h1 h2 =>
        ⟨Kd.R_lower (hP.step fun b q hl => hf.ch.block b hl (fun q2 => hTP b q2 q)) (Nat.zero_le _), hB.trans (hf.below hB.size (fun b q => (hTb b q).1)), fun b q => (h1 b q).elim (fun q => (hTb b q).1) (fun q => Nat.le_trans hB.size q), fun b q p => (h1 b q).elim (fun q => hTP b q p) (fun q => by have := (hPb b p).2; omega)⟩⟩
      clear hT hP hTb hPb hTP hB hres hts
      go_upto_region 13 with (go_at_call 22; refine h22.out.mono ?_; rintro e W6 ⟨rfl, hf6, T6, hT6, ht6⟩; obtain ⟨T2, ht2, h12, hl2⟩ := tight2 ht6; have hq6 := Aside0.mk (hnext.out _ _ hf6 (fun b q => hT6 b (h12 b q)) ht2); replace ht6 := Aside0.mk ht2; replace hl2 := Aside0.mk hl2; clear hf6 hT6 h12)
      clear h22 hnext
      have hA7 := (Below.refl W6.heap.size W6).alloc (Nat.le_refl _) (o56 ra rb rc)
      have hn7 := Aside0.mk (blk_new W6 (o56 ra rb rc))
      have hP7 := Aside0.mk (hq6.out.1.below hA7)
      have hT7 := Aside0.mk (ht6.out.below hA7)
      have hB7 := Aside0.mk (hq6.out.2.1.trans (hA7.mono hq6.out.2.1.size))
      have hTw := Aside0.mk hq6.out.2.2.1
      have hTP7 := Aside0.mk hq6.out.2.2.2
      have hTl := Aside0.mk (fun b (q : T2 b) => show b < (W6.alloc (o56 ra rb rc)).heap.size from Nat.lt_of_lt_of_le (hl2.out b q) hA7.size)
      clear hA7 hq6 ht6 hl2
      generalize W6.alloc (o56 ra rb rc) = W7 at hn7 hP7 hT7 hB7 hTl ⊢
      generalize W6.heap.size = g7 at hn7 ⊢
      go_upto_region 14 with (go_at_call 23; refine (hrt.out _ _ hP7.out).mono ?_; rintro e W8 ⟨u8, rfl, hR8, hb8⟩; obtain ⟨B8, d8, rfl, hd8, -⟩ := DN.reads hR8; replace hR8 := Aside0.mk hR8; replace hb8 := Aside0.mk hb8)
      have hA9 := (Below.refl W8.heap.size W8).alloc (Nat.le_refl _) (o55 ra rb rc)
      have hn9 := Aside0.mk (blk_new W8 (o55 ra rb rc))
      have hb79 := hb8.out.trans (hA9.mono hb8.out.size)
      have hx9 := Aside0.mk (blk_below hn7.out hb79)
      have hB9 := Aside0.mk (hB7.out.trans (hb79.mono hB7.out.size))
      have hT9 := Aside0.mk (hT7.out.below hb79)
      have hP9 := hR8.out.below hA9
      obtain ⟨P8, hP8⟩ : ∃ P8 : Nat → Prop, P8 = fun b => P b ∨ W7.heap.size ≤ b := ⟨_, rfl⟩
      have hdis : Aside0 (∀ b, T2 b → P8 b → False) := ⟨fun b q p => by
        rw [hP8] at p
        exact p.elim (hTP7.out b q) (fun p => by have := hTl.out b q; omega)⟩
      rw [← hP8] at hP9
      replace hP8 := Aside0.mk hP8
      have hTl9 := Aside0.mk (fun b (q : T2 b) => show b < (W8.alloc (o55 ra rb rc)).heap.size from Nat.lt_of_lt_of_le (hTl.out b q) hb79.size)
      replace hP9 : Aside0 (DN 0 P8 (W8.alloc (o55 ra rb rc)) (.slice B8 now.length d8) now) := ⟨hP9⟩
      clear hA9 hb79 hn7 hP7 hT7 hB7 hTl hTP7 hR8 hb8 hrt
      clear hP8
      generalize W8.alloc (o55 ra rb rc) = W9 at hn9 hx9 hB9 hT9 hP9 hTl9 ⊢
      generalize W8.heap.size = g9 at hn9 ⊢
      have p0 := (blk_cell hx9.out 0).trans (show _ = some (Value.int .i64 ra) from rfl)
      have p1 := (blk_cell hx9.out 1).trans (show _ = some (Value.int .i64 rb) from rfl)
      have p2 := (blk_cell hx9.out 2).trans (show _ = some (Value.int .i64 rc) from rfl)
      have q0 := (blk_cell hn9.out 0).trans (show _ = some (Value.int .i64 ra) from rfl)
      have q1 := (blk_cell hn9.out 1).trans (show _ = some (Value.int .i64 rb) from rfl)
      have q2 := (blk_cell hn9.out 2).trans (show _ = some (Value.int .i64 rc) from rfl)
      have h19 := Aside0.mk (len_walk hT9.out)
      go_upto_region 16 with (go_at_call 19; refine h19.out.mono ?_; rintro e w10 ⟨rfl, rfl⟩)
      clear p0 p1 p2 q0 q1 q2 h19 hx9 hn9
      obtain ⟨S2, hS2⟩ : ∃ S2 : List UInt8, S2 = 114 :: 32 :: 40 :: (s ++ [41]) := ⟨_, rfl⟩
      have hS2l : S2.length ≤ 300 := by rw [hS2]; simp; omega
      obtain ⟨G, hG⟩ : ∃ G, str S2 = G := ⟨_, rfl⟩
      have hcat : ⟨#[114, 32, 40]⟩ ++ X ++ ⟨#[41]⟩ = G := by
        rw [← hG, hS2, ← hX.out]
        apply ByteArray.ext
        simp [str]
      clear hS2
      have hX2 : X.size ≤ 200 := by rw [hXs.out]; omega
      have hE9 := hE.out.of hB9.out (Nat.le_refl _)
      have hpw := parse_walk hT9.out hTl9.out hnowN.out (by omega) hE9 S2 (by omega)
      have hsizes := rparse_size now S2
      obtain ⟨⟨⟨nm, l⟩, last, worse⟩, hres⟩ : ∃ q, rparse now S2 = q := ⟨_, rfl⟩
      have hrp := Aside0.mk (fun W (q : RN W (.slice B8 now.length d8) now) => rpparse_walk q (by omega) S2 (by omega))
      rw [hres, hG] at hpw hrp
      rw [hres] at hsizes
      simp only at hsizes
      obtain ⟨hsl, hsn⟩ := hsizes
      clear hres hG
      replace hpw := Aside0.mk hpw
      replace hE9 := Aside0.mk hE9
      go_upto_region 17 with (go_at_call 14; refine hpw.out.mono ?_; rintro e W10 ⟨V6, rfl, hfr6, ⟨T6, hT6, htb6⟩, hbx6⟩; obtain ⟨A6, c6, rfl, hrd6⟩ := hbx6.reads; replace hfr6 := Aside0.mk hfr6; replace htb6 := Aside0.mk htb6; replace hrd6 := Aside0.mk hrd6; clear hbx6 hT6)
      have hFw := hfr6.out.below (B := w.heap.size) hB9.out.size (fun b q => hTw.out b q)
      have hB10 : Below w.heap.size w W10 := hB9.out.trans hFw
      have hA11 := (Below.refl W10.heap.size W10).alloc (Nat.le_refl _) (.cells #[.string (str nm), .slice A6 l.length c6] 25)
      have hn11 := Aside0.mk (blk_new W10 (.cells #[.string (str nm), .slice A6 l.length c6] 25))
      have hB11 := Aside0.mk (hB10.trans (hA11.mono hB10.size))
      have hT11 := Aside0.mk (htb6.out.below hA11)
      have hP10 : DN 0 P8 W10 (.slice B8 now.length d8) now := hP9.out.step fun b q hl => hfr6.out.ch.block b hl (fun q2 => hdis.out b q2 q)
      have hR11 := Aside0.mk ((RN.of hP10).below hA11)
      have hr11 := Aside0.mk (hrd6.out.below hA11)
      clear hFw hB10 hP10 hpw hfr6 htb6 hrd6 hA11 hT9 hTl9 hP9 hdis hTw hB9 hE9
      generalize W10.alloc (.cells #[.string (str nm), .slice A6 l.length c6] 25) = W11 at hn11 hB11 hT11 hR11 hr11 ⊢
      generalize W10.heap.size = g11 at hn11 ⊢
      go_upto_region 18 with (go_at_call 17; refine (hrp.out _ hR11.out).mono ?_; rintro e W12 ⟨S8, u9, rfl, hS8, hu9, hb8⟩; obtain ⟨A8, c8, rfl, hs8⟩ := hS8.reads; obtain ⟨B9, d9, rfl, hd9, -⟩ := hu9.reads; replace hs8 := Aside0.mk hs8; replace hb8 := Aside0.mk hb8; clear hS8 hu9)
      have hA9 := (Below.refl W12.heap.size W12).alloc (Nat.le_refl _) (.cells #[.string (str nm), .slice A8 l.length c8] 38)
      have hn13 := Aside0.mk (blk_new W12 (.cells #[.string (str nm), .slice A8 l.length c8] 38))
      have hb79 := hb8.out.trans (hA9.mono hb8.out.size)
      have hB13 := Aside0.mk (hB11.out.trans (hb79.mono hB11.out.size))
      have hx13 := Aside0.mk (blk_below hn11.out hb79)
      have hT13 := Aside0.mk (hT11.out.below hb79)
      have hr13 := Aside0.mk (hr11.out.below hb79)
      have hs13 := Aside0.mk (hs8.out.below hA9)
      clear hb79 hA9 hb8 hn11 hB11 hT11 hR11 hr11 hs8 hrp
      generalize W12.alloc (.cells #[.string (str nm), .slice A8 l.length c8] 38) = W13 at hn13 hB13 hx13 hT13 hr13 hs13 ⊢
      generalize W12.heap.size = g13 at hn13 ⊢
      have k13 : Aside0 (∀ W', YReg.Ext W13.drew W' → Calls Tryz.prog 13 #[.agg #[.string (str nm), .slice A6 l.length c6]] W' fun e W2 => ∃ u, e = .returned u ∧ YReg.Ext W' W2 ∧ IsRl nm l u W2) := ⟨fun W' h => (ref13 (csizeL l + 1) (str nm) l A6 c6 W' _ (Nat.lt_succ_self _) (by omega) (hr13.out.below h.of_drew)).mono fun e W2 ⟨S, h1, h2, h3⟩ => ⟨_, h1, h2, S, _, rfl, h3⟩⟩
      have k15 : Aside0 (∀ u1 W', YReg.Ext W13.drew W' → IsRl nm l u1 W' → Calls Tryz.prog 15 #[u1, .agg #[.string (str nm), .slice A8 l.length c8]] W' fun e W2 => ∃ u, e = .returned u ∧ YReg.Ext W' W2 ∧ u = .bool true) := ⟨fun u1 W' h ⟨S1, n1, q1, r1⟩ => by
        obtain ⟨B1, d1, rfl, t1⟩ := r1.reads
        subst q1
        exact (same15 nm l B1 d1 A8 c8 W' _ _ (by omega) t1 (hs13.out.below h.of_drew)).mono fun e W2 ⟨h1, h2⟩ => ⟨_, h1, h2, rfl⟩⟩
      have k19 : Aside0 (∀ W', YReg.Ext W13.drew W' → Calls Tryz.prog 19 #[.pointer (some ⟨t, 0, none⟩)] W' fun e W2 => ∃ u, e = .returned u ∧ YReg.Ext W' W2 ∧ u = .int .i64 last.length) := ⟨fun W' h => (len_walk (hT13.out.below h.of_drew)).mono fun e W2 ⟨h1, h2⟩ => ⟨_, h1, h2 ▸ YReg.Ext.refl _, rfl⟩⟩
      have k10 : Aside0 (∀ W', YReg.Ext W13.drew W' → Calls Tryz.prog 10 #[] W' fun e W2 => ∃ u, e = .returned u ∧ YReg.Ext W' W2 ∧ u = .bool true) := ⟨fun W' h => (awake_walk W' ((hE.out.of hB13.out (Nat.le_refl _)).below h.of_drew)).mono fun e W2 ⟨h1, h2⟩ => ⟨_, h1, h2, rfl⟩⟩
      have s0 : ∀ W', YReg.Ext W13.drew W' → W'.cell? ⟨g11, 0, none⟩ = some (.string (str nm)) := fun W' h => (blk_cell (blk_below hx13.out h.of_drew) 0).trans rfl
      have s1 : ∀ W', YReg.Ext W13.drew W' → W'.cell? ⟨g11, 1, none⟩ = some (.slice A6 l.length c6) := fun W' h => (blk_cell (blk_below hx13.out h.of_drew) 1).trans rfl
      have s2 : ∀ W', YReg.Ext W13.drew W' → W'.cell? ⟨g13, 0, none⟩ = some (.string (str nm)) := fun W' h => (blk_cell (blk_below hn13.out h.of_drew) 0).trans rfl
      have s3 : ∀ W', YReg.Ext W13.drew W' → W'.cell? ⟨g13, 1, none⟩ = some (.slice A8 l.length c8) := fun W' h => (blk_cell (blk_below hn13.out h.of_drew) 1).trans rfl
      clear hcat
      refine YReg.wp_region_tail 19 none YReg.Ext YReg.Ext YReg.Ext.refl YReg.Ext.trans YReg.Ext.trans (fun _ _ h => h) (by kernel_rfl) (by kernel_rfl) (by kernel_rfl) [(15, .det (.int .i64 worse)), (18, .det (.int .i64 worse)), (14, .det (.pointer (some ⟨g11, 0, none⟩))), (16, .det (.pointer (some ⟨g13, 0, none⟩))), (5, .det (.pointer (some ⟨t, 0, none⟩))), (17, .det (.slice B9 last.length d9))] (YReg.base_cons rfl (YReg.base_cons rfl (YReg.base_cons rfl (YReg.base_cons rfl (YReg.base_cons rfl (YReg.base_cons rfl YReg.base_nil)))))) ?_
      simp only [List.take_succ_cons, List.take_zero, List.drop_succ_cons, List.drop_zero]
      repeat (first
        | (refine YReg.walk_calln (by decide) IsRl.up k13.out rfl (by kernel_rfl) rfl _ rfl (by kernel_rfl) (by kernel_rfl) ?_)
        | (refine YReg.walk_calld1 (by decide) k15.out rfl (by kernel_rfl) rfl rfl _ rfl (by kernel_rfl) (by kernel_rfl) ?_)
        | (refine YReg.walk_calld (by decide) k19.out rfl (by kernel_rfl) rfl _ rfl (by kernel_rfl) (by kernel_rfl) ?_)
        | (refine YReg.walk_calld (by decide) k10.out rfl (by kernel_rfl) rfl _ rfl (by kernel_rfl) (by kernel_rfl) ?_)
        | (refine YReg.run_1 (by decide) YReg.Ext.refl rfl rfl _ rfl (by kernel_rfl) (by kernel_rfl) ?_; apply Exists.intro; refine ⟨fun ρ W hE h1 => ?_, ?_⟩; (go_simp; try rfl))
        | (refine YReg.run_2 (by decide) YReg.Ext.refl rfl rfl rfl _ rfl (by kernel_rfl) (by kernel_rfl) ?_; apply Exists.intro; refine ⟨fun ρ W hE h1 h2 => ?_, ?_⟩; (go_simp; try rfl)))
      intro ρ W14 hE14 hn
      simp only [Act.put, List.setIfInBounds_toArray, List.set_cons_zero, List.set_cons_succ]
      have hB14 := Aside0.mk (hB13.out.trans (hE14.of_drew.mono hB13.out.size))
      clear hn hE14 s0 s1 s2 s3 k13 k15 k19 k10
      generalize ρ 112 = x112
      go_wp2
      go_ret
      exact ⟨rfl, hB14.out⟩
theorem byte_range {n : Int} (h : (Lit.int .u8 n).wf = true) : 0 ≤ n ∧ n ≤ 255 := by
  simp [Lit.wf, IntKind.min, IntKind.max, IntKind.signed, IntKind.bits] at h
  omega
theorem law_many' (n : Int) (h0 : 0 ≤ n) (h1 : n ≤ 255) (S : ByteArray) (w : World) (hE : Env w) :
    Calls Tryz.prog 6 #[.int .u8 n, .string S] w fun e W => e = .returned (.bool true) ∧ Below w.heap.size w W := by
  obtain ⟨m, rfl⟩ := Int.eq_ofNat_of_zero_le h0
  exact law_many m (by omega) S.data.toList w hE
end Go.Proofs.YtkbkkceeolclmaaGreatDoor.X
