/- A region that draws its order, within a fence or a round, whose operations only read: one walk in the order of the text. A library text of this work. -/
import Derived.Test.YtnncomhgclffaaaOReg
import Derived.OrdersIn
import Derived.TacticsInMore
namespace Go.OReg

/-- Operations that come to a value or to an end. -/
def pureOp (o : Oper) : Bool :=
  match o.op with
  | .move _ | .assign _ | .load _ _ | .indexAddr _ _ _ | .binOp _ _ _ _ _ => true
  | _ => false
theorem pure_about {o : Oper} (h : pureOp o = true) {P : Program} {w : World} {ρ : Operand → Value} : o.about P w ρ = none := by
  unfold Oper.about
  unfold pureOp at h
  split
  · rename_i c ho
    rw [ho] at h
    cases h
  · rfl
theorem pure_sem {o : Oper} (h : pureOp o = true) {ro : Option Nat} {ρ : Operand → Value} : o.semAt ro ρ = execOp ρ o := Oper.semAt_eq _ _ _ fun c hc => by
  unfold pureOp at h
  rw [hc] at h
  cases h
theorem value_of {P : Program} {s : Sem Value} {w w' : World} {n : Next} (h : (do pure (Next.value (← s)) : Sem Next).run P w = .ok n w') : ∃ u, n = .value u := by
  rw [Sem.run_bind] at h
  cases hr : s.run P w with
  | ok u w1 =>
    rw [hr] at h
    have h : Result.ok (Next.value u) w1 = Result.ok n w' := h
    cases h
    exact ⟨u, rfl⟩
  | halt x w1 =>
    rw [hr] at h
    cases h
theorem pure_value {o : Oper} (h : pureOp o = true) {P : Program} (ρ : Operand → Value) (w : World) (n : Next) (w' : World) (e : (execOp ρ o).run P w = .ok n w') : ∃ u, n = .value u := by
  unfold pureOp at h
  unfold execOp at e
  split at h
  · rename_i x ho
    rw [ho] at e
    have e : Result.ok (Next.value (ρ x)) w = Result.ok n w' := e
    cases e
    exact ⟨_, rfl⟩
  · rename_i x ho
    rw [ho] at e
    have e : Result.ok (Next.value (ρ x)) w = Result.ok n w' := e
    cases e
    exact ⟨_, rfl⟩
  · rename_i t x ho
    rw [ho] at e
    exact value_of e
  · rename_i t x y ho
    rw [ho] at e
    exact value_of e
  · rename_i op t x y t2 ho
    rw [ho] at e
    exact value_of e
  · cases h

section
variable {F : Fence} {n : Nat} {P : Program} {ops : Array Oper} {E : World → World → Prop} {w0 : World} {a0 : Act} {K0 : Known} {Fs : Nat → Fact}

theorem wpAnyIn_of_inv (hpure : ∀ (j : Nat) (o : Oper), ops[j]? = some o → pureOp o = true) {Q : Act → World → Prop} {Q' : Exit → Act → World → Prop} (hQ : ∀ a w, Q a w → Q' .normal a w) (hf : Fits ops a0.tmps.size) (ht : ∀ a b c, E a b → E b c → E a c) (hr : ∀ w, E w w)
    (h0 : ∀ t F, look K0 t = some F → ∀ w, E w0 w → F.holds (a0.tmps.getD t undef) w)
    (hstep : ∀ (j : Nat) (o : Oper), ops[j]? = some o → (Fs j).up E ∧ ∀ ρ w, E w0 w → (∀ t ∈ looks ops o, OReg.knows (kAt K0 ops.toList Fs j) ρ w t) → stepE P ops E o ρ w (Fs j))
    (hfin : ∀ ρ w, E w0 w → ndAt (fun _ _ => True) ops.toList Fs ρ w → Q (finAt (fun _ => a0) ops.toList Fs ρ) w) :
    ∀ (fuel : Nat) (listed : Array Bool) (a : Act) (w : World), listed.toList.count false ≤ fuel → Inv ops a0 E w0 Fs listed a w → wpAnyIn F n P .any ops Q' fuel listed a w := by
  have toL : ∀ (k : Nat) (x : Oper), ops.toList[k]? = some x ↔ ops[k]? = some x := fun k x => by rw [Array.getElem?_toList]
  have done : ∀ (listed : Array Bool) (a : Act) (w : World), Inv ops a0 E w0 Fs listed a w → Region.ready .any ops listed = [] → Q' .normal a w := fun listed a w h hn => by
    have hall := all_listed hf.small h.lsz hn
    have hnew : ∀ (k : Nat) (o : Oper) (d : Nat), ops.toList[k]? = some o → o.dst = some d → (Fs k).holds (a.tmps.getD d undef) w := fun k o d ho hd => by
      have ho' := (toL k o).1 ho
      exact h.new k o d (hall k (Array.getElem?_eq_some_iff.1 ho').1) ho' hd
    have hs := finAt_spec (fun t => a.tmps.getD t undef) ops.toList (fun _ => a0) Fs w a0.tmps.size rfl (fun k o d ho hd => ⟨hf.lt ((toL k o).1 ho) hd, hnew k o d ho hd⟩)
    have hq := hfin (fun t => a.tmps.getD t undef) w h.e (ndAt_spec _ w ops.toList _ Fs trivial hnew)
    have e : a = finAt (fun _ => a0) ops.toList Fs fun t => a.tmps.getD t undef := by
      refine act_ext (h.sz.trans hs.1.symm) (h.df.trans hs.2.1.symm) fun t => ?_
      by_cases hex : ∃ (k : Nat) (o : Oper), ops.toList[k]? = some o ∧ o.dst = some t
      · obtain ⟨k, o, h1, h2⟩ := hex
        exact (hs.2.2.2 k o t h1 h2).symm
      · rw [hs.2.2.1 t (fun k o h1 h2 => hex ⟨k, o, h1, h2⟩)]
        exact h.old t fun k o _ h1 h2 => hex ⟨k, o, (toL k o).2 h1, h2⟩
    rw [← e] at hq
    exact hQ _ _ hq
  intro fuel
  induction fuel with
  | zero =>
    intro listed a w hc h
    have hn : Region.ready .any ops listed = [] := List.eq_nil_iff_forall_not_mem.2 fun i hi => by
      obtain ⟨h1, _⟩ := mem_ready.1 hi
      obtain ⟨_, hl, he⟩ := getD_false_of h1
      have : false ∈ listed.toList := by rw [← he]; exact Array.getElem_mem_toList hl
      have := List.count_pos_iff.2 this
      omega
    exact ⟨hn, done listed a w h hn⟩
  | succ fuel ih =>
    intro listed a w hc h
    refine ⟨done listed a w h, fun i hi => ?_⟩
    obtain ⟨h1, o, ho, hall⟩ := mem_ready.1 hi
    obtain ⟨hn, hl, he⟩ := getD_false_of h1
    have hp := preds_listed hall
    have hc' : (listed.setIfInBounds i true).toList.count false ≤ fuel := by
      have hl' : i < listed.toList.length := by simpa using hl
      have he' : listed.toList[i] = false := by simpa using he
      have hpos : 0 < listed.toList.count false := List.count_pos_iff.2 (by rw [← he']; exact List.getElem_mem hl')
      rw [Array.toList_setIfInBounds, List.count_set hl', he']
      generalize listed.toList.count false = m at hc hpos
      have e1 : (if (false == false) = true then 1 else 0) = 1 := rfl
      have e2 : (if (true == false) = true then 1 else 0) = 0 := rfl
      rw [e1, e2]
      omega
    obtain ⟨hup, hs⟩ := hstep i o ho
    have hst := hs (fun t => a.tmps.getD t undef) w h.e (h.knows hf h0 ho hn hp)
    have next : ∀ u w', E w w' → (Fs i).holds u w' → wpAnyIn F n P .any ops Q' fuel (listed.setIfInBounds i true) (a.put o.dst u) w' := fun u w' hE hu => ih _ _ _ hc' (h.put hf ht (fun k x hx => (hstep k x hx).1) ho hp hE hu)
    unfold wpOpIn
    rw [ho]
    simp only []
    have hpo := hpure i o ho
    unfold stepE at hst
    rw [wantE_spec]
    by_cases hw : wantE ops o (fun t => a.tmps.getD t undef) = true
    · rw [if_pos hw] at hst
      rw [if_pos hw]
      unfold Oper.wpIn
      rw [pure_sem hpo, eval_env]
      refine ⟨fun f hf' => (by rw [pure_about hpo] at hf'; cases hf'), ?_⟩
      have hv := fun n' w1 => pure_value (P := P) hpo (envOf fun t => a.tmps.getD t undef) w n' w1
      generalize (execOp (envOf fun t => a.tmps.getD t undef) o).run P w = r at hst hv
      cases r with
      | ok n1 w1 =>
        obtain ⟨u, rfl⟩ := hv n1 w1 rfl
        simp only [upE] at hst
        exact next u w1 hst.1 hst.2
      | halt x w' => simp only [upE] at hst
    · rw [if_neg hw] at hst
      rw [if_neg hw]
      exact ⟨fun f hf' => (by rw [pure_about hpo] at hf'; cases hf'), next undef w (hr w) hst⟩

/-- **One walk in the order of the text, within a fence.** -/
theorem wpIn_region {id : Nat} {Q : Exit → Act → World → Prop} {w : World} {l : List Oper} (E : World → World → Prop) (hr : ∀ w, E w w) (ht : ∀ a b c, E a b → E b c → E a c) (hm : P.follows .mixedOrders = true) (hB : okRegion l.toArray a0.tmps.size = true) (hp : l.all pureOp = true)
    (K0 : Known) (h0 : ∀ t F, look K0 t = some F → ∀ w', E w.drew w' → F.holds (a0.tmps.getD t undef) w')
    (h : walk P l.toArray E w.drew (fun a w => Q .normal a w) l K0 (fun _ => a0) (fun _ _ => True)) : (Code.region id l.toArray true).wpIn F n P Q a0 w := by
  obtain ⟨Fs, h1, h2⟩ := walk_family l K0 _ _ h
  refine wpIn_region_any hm ?_
  refine wpAnyIn_of_inv (fun j o ho => List.all_eq_true.1 hp o (List.mem_of_getElem? (by simpa using ho))) (Fs := Fs) (K0 := K0) (a0 := a0) (E := E) (w0 := w.drew) (Q := fun a w => Q .normal a w) (fun _ _ h => h) (fits_of hB) ht hr h0 (fun j o ho => h1 j o (by simpa using ho)) h2 _ _ _ _ ?_ ⟨hr _, rfl, rfl, fun _ _ => rfl, fun k o d hk => absurd hk ?_, fun k o hk => absurd hk ?_, by simp⟩
  · simp
  · rw [Array.getD_eq_getD_getElem?, Array.getElem?_replicate]
    split <;> simp
  · rw [Array.getD_eq_getD_getElem?, Array.getElem?_replicate]
    split <;> simp
end
end Go.OReg
