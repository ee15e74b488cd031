/- The library's sort at triples; 'Sort' of layer 2. -/
import Derived.Test.YtfgnpplnjgjjkaaDoorSColl
import Derived.Test.YtfgnpplnjgjjkaaDoorShelfS
import Derived.Test.YtfgnpplnjgjjkaaDoorTCompares
import Derived.Shelf.SlSortCmp.NoneTotal
namespace Go.Proofs.YtfgnpplnjgjjkaaDoor.T
open Go.RowKit Go.Shelf Go.Lib Go.Sort Go.Proofs.YtfgnpplnjgjjkaaDoorW.PrintWords Go.Proofs.YtfgnpplnjgjjkaaDoor.K

def cmpT (x y : Tr) : Int := cmpZ x.1 x.2.1 x.2.2 y.1 y.2.1 y.2.2
theorem compT (x y : Tr) (w : World) : Calls Tryd.prog 34 #[ag3 x, ag3 y] w fun e w' => e = .returned (.int .i64 (cmpT x y)) ∧ Gr w w' :=
  compare_gr (fn3 x.1 x.2.1 x.2.2) (fn3 y.1 y.2.1 y.2.2) w

theorem owns_open {W : World} {B n : Nat} {e : TypeId} {size : Nat} {v : Value} {xs : List Value} (h : W.ownsRow B e size v n xs) (hn : 0 < n) :
    ∃ g cap cur, v = .slice (some ⟨g, 0, none⟩) n cap ∧ B ≤ g ∧ W.heap[g]? = some (.cells cur e (0, 0)) ∧ n ≤ cap ∧ cap ≤ maxLen ∧ cur.size = cap * size ∧ cur.toList.take (n * size) = xs := by
  rcases h.2 with ⟨_, rfl⟩ | ⟨g, cap, cur, h1, h2, h3, h4, h5, h6, h7⟩
  · omega
  · exact ⟨g, cap, cur, h1, h2, h3, h4, h5, h6, h7⟩
theorem owns_form {w : World} {base : Nat} {e : TypeId} {size n : Nat} {v : Value} {xs : List Value} (h : w.ownsRow base e size v n xs) : ∃ a cap, v = .slice a n cap := by
  rcases h.2 with ⟨rfl, rfl⟩ | ⟨g, cap, cur, rfl, _⟩
  · exact ⟨_, _, rfl⟩
  · exact ⟨_, _, rfl⟩

theorem cmpT_neg (x y : Tr) : cmpT y x = - cmpT x y := by
  unfold cmpT
  rw [cmpZ_eq, cmpZ_eq]
  have h0 := cmpI_cases x.1 y.1
  have h1 := cmpI_cases x.2.1 y.2.1
  have h2 := cmpI_cases x.2.2 y.2.2
  have k0 := cmpI_cases y.1 x.1
  have k1 := cmpI_cases y.2.1 x.2.1
  have k2 := cmpI_cases y.2.2 x.2.2
  by_cases e0 : x.1 = y.1
  · rw [if_pos e0, if_pos e0.symm]
    by_cases e1 : x.2.1 = y.2.1
    · rw [if_pos e1, if_pos e1.symm]; omega
    · rw [if_neg e1, if_neg (fun e => e1 e.symm)]; omega
  · rw [if_neg e0, if_neg (fun e => e0 e.symm)]; omega
theorem cmpT_zero (x y : Tr) : cmpT x y = 0 ↔ x = y := by
  unfold cmpT
  rw [cmpZ_zero]
  simp only [eqB, Bool.and_eq_true, beq_iff_eq]
  constructor
  · rintro ⟨h1, h2, h3⟩
    exact Prod.ext h1 (Prod.ext h2 h3)
  · rintro rfl
    exact ⟨rfl, rfl, rfl⟩
theorem cmpT_le {x y z : Tr} (h : cmpT x y ≤ 0) (k : cmpT y z ≤ 0) : cmpT x z ≤ 0 := cmpZ_le _ _ _ _ _ _ _ _ _ h k
theorem swoT : SWO (ltOf cmpT) where
  irrefl x := by
    have : cmpT x x = 0 := (cmpT_zero x x).2 rfl
    simp [ltOf, this]
  trans x y z h1 h2 := by
    simp only [ltOf, decide_eq_true_eq] at *
    have h := cmpT_le (Int.le_of_lt h1) (Int.le_of_lt h2)
    by_cases e : cmpT x z = 0
    · obtain rfl := (cmpT_zero x z).1 e
      rw [cmpT_neg] at h2
      omega
    · omega
  ntrans x y z h1 h2 := by
    simp only [ltOf, decide_eq_false_iff_not, Int.not_lt] at *
    have a : cmpT y x ≤ 0 := by rw [cmpT_neg]; omega
    have b : cmpT z y ≤ 0 := by rw [cmpT_neg]; omega
    have := cmpT_le b a
    rw [cmpT_neg] at this
    omega

theorem flat_cells (d : Array Tr) : (flatK cs3 3 d).toList = csT d.toList := by
  apply List.ext_getElem?
  intro t
  by_cases ht : t < d.size * 3
  · have h1 := get_flatK cs3 3 d t ht
    have hs : t < (flatK cs3 3 d).size := by simpa using ht
    rw [getElem!_pos _ t hs] at h1
    have hd : t / 3 < d.size := by omega
    have e1 : (flatK cs3 3 d).toList[t]? = some (cs3 d[t / 3]!)[t % 3]! := by
      rw [Array.getElem?_toList, Array.getElem?_eq_getElem hs, h1]
    rw [e1, getElem!_pos d (t / 3) hd]
    have hl : t / 3 < d.toList.length := by simpa using hd
    obtain ⟨c0, c1, c2⟩ := csT_at d.toList (t / 3) hl
    have hm : t % 3 = 0 ∨ t % 3 = 1 ∨ t % 3 = 2 := by omega
    rcases hm with q | q | q
    · have e2 : t / 3 * 3 = t := by omega
      rw [e2] at c0
      rw [c0, q]
      simp
    · have e2 : t / 3 * 3 + 1 = t := by omega
      rw [e2] at c1
      rw [c1, q]
      simp
    · have e2 : t / 3 * 3 + 2 = t := by omega
      rw [e2] at c2
      rw [c2, q]
      simp
  · rw [List.getElem?_eq_none (by simp; omega), List.getElem?_eq_none (by rw [csT_len]; simp; omega)]

theorem modify_other {w : World} {blk : Nat} {f : Array Value → Array Value} {k : Nat} (h : k ≠ blk) : (mapBlock w blk f).heap[k]? = w.heap[k]? := by
  unfold mapBlock
  rw [Array.getElem?_modify, if_neg (fun e => h e.symm)]
theorem modify_same {w : World} {blk : Nat} {f : Array Value → Array Value} {cur : Array Value} {t : TypeId} (h : w.heap[blk]? = some (.cells cur t (0, 0))) : (mapBlock w blk f).heap[blk]? = some (.cells (f cur) t (0, 0)) := by
  unfold mapBlock
  rw [Array.getElem?_modify, if_pos rfl, h]
  rfl
theorem owns_base2 {W : World} {b b' : Nat} {e : TypeId} {size n : Nat} {v : Value} {xs : List Value} (h : W.ownsRow b e size v n xs) (hb : b' ≤ b) : W.ownsRow b' e size v n xs := by
  refine ⟨h.1, ?_⟩
  rcases h.2 with h2 | ⟨g, cap, cur, rfl, hg, r⟩
  · exact .inl h2
  · exact .inr ⟨g, cap, cur, rfl, Nat.le_trans hb hg, r⟩
theorem RT.mono_ {n₀ n₁ : Nat} {W : World} {v : Value} {l : List Tr} (h : RT n₀ W v l) (hn : n₀ ≤ n₁) : RT n₁ W v l := by
  obtain ⟨A, cap, e, hm, h⟩ := h
  refine ⟨A, cap, e, hm, fun j hj => ?_⟩
  obtain ⟨b, o, e, h1, h2⟩ := h j hj
  exact ⟨b, o, e, Nat.lt_of_lt_of_le h1 hn, h2⟩
section
variable {w : World} {B : Nat} {v : Value} {l : List Tr}
theorem swk_other {blk m : Nat} {dk : Array Tr} {os : Array Obj} {k : Nat} (hk : k < w.heap.size) (h : k ≠ blk) : (sortWorldK cs3 3 w blk 0 m dk os).heap[k]? = w.heap[k]? := by
  unfold sortWorldK putRowK putRow
  rw [Sort.heap_grow_old _ _ (by simp [mapBlock, Sort.ahead]; exact hk), modify_other h]
  rfl
theorem swk_size {blk m : Nat} {dk : Array Tr} {os : Array Obj} : w.heap.size ≤ (sortWorldK cs3 3 w blk 0 m dk os).heap.size := by
  unfold sortWorldK
  show w.heap.size ≤ ((putRowK cs3 3 (Sort.ahead w m) blk 0 dk).heap ++ os).size
  rw [Array.size_append]
  have : (putRowK cs3 3 (Sort.ahead w m) blk 0 dk).heap.size = w.heap.size := by simp [putRowK, putRow, mapBlock, Sort.ahead]
  omega
theorem put_take (cur : Array Value) (d : Array Value) (h : d.size ≤ cur.size) : (putCells id 0 d cur).toList.take d.size = d.toList := by
  apply List.ext_getElem?
  intro t
  rw [List.getElem?_take]
  by_cases ht : t < d.size
  · rw [if_pos ht, Array.getElem?_toList, Array.getElem?_toList]
    unfold putCells
    have h1 : t < cur.size := by omega
    rw [Array.getElem?_mapIdx, Array.getElem?_eq_getElem h1, Array.getElem?_eq_getElem ht]
    simp [ht]
  · rw [if_neg ht, Array.getElem?_toList, Array.getElem?_eq_none (by omega)]
theorem put_size (cur d : Array Value) : (putCells id 0 d cur).size = cur.size := by simp [putCells]

set_option maxHeartbeats 1000000 in
theorem sort_walk (h : w.ownsRow B 23 3 v l.length (csT l)) (hl : l.length ≤ 100000) : Calls Tryd.prog 55 #[v, .func (.func 34) #[] #[]] w fun e w' => e = .returned (.tuple #[]) ∧ ∃ l', l'.Perm l ∧ l'.Pairwise (fun a b => ¬ cmpT b a < 0) ∧ w'.ownsRow B 23 3 v l'.length (csT l') ∧ Below B w w' := by
  by_cases hn : 0 < l.length
  · obtain ⟨g, cap, cur, rfl, hBg, hg, hnc, hcm, hcs, htk⟩ := owns_open h hn
    have hgl := blk_lt hg
    let d : Array Tr := l.toArray
    have hds : d.size = l.length := by simp [d]
    have hk : ∀ x : Tr, (cs3 x).length = 3 := fun _ => rfl
    have h1 : ∀ x : Tr, ∀ u ∈ cs3 x, u.oneCell' = true := fun x u hu => by
      simp at hu
      rcases hu with rfl | rfl | rfl <;> rfl
    have hcmp : CmpLays Tryd.prog 34 #[] cs3 3 cmpT g 0 d.size w := fun m os dk hs x y =>
      (compT x y _).mono fun e w2 ⟨e1, q, os', e2⟩ => ⟨e1, q, os', e2⟩
    have hH : HoldsK cs3 3 w g 0 d := fun j hj => by
      have hj' : j < d.size * 3 := by simpa using hj
      have e1 : (flatK cs3 3 d).toList[j]? = (csT l)[j]? := by rw [flat_cells]
      have e2 : (csT l)[j]? = cur[j]? := by
        rw [← htk, List.getElem?_take, if_pos (by omega), Array.getElem?_toList]
      refine ⟨?_, blk_frozen hg _⟩
      have hs : j < (flatK cs3 3 d).size := by simpa using hj'
      rw [blk_cell hg, Nat.zero_add, ← e2, ← e1, Array.getElem?_toList, Array.getElem?_eq_getElem hs, getElem!_pos _ j hs]
      rfl
    have hcon := AnyQ.slices_SortFunc Tryd.sortT 3 (fun w => by kernel_rfl) (fun w => by kernel_rfl) cs3 hk h1 cmpT swoT 34 #[] g 0 cap d w (enters_of Tryd.func34 (by kernel_rfl) rfl) hcmp hH hgl (by omega)
    change Calls Tryd.prog 55 _ _ _ at hcon
    rw [hds] at hcon
    refine hcon.mono ?_
    rintro e w' ⟨rfl, d', m, os, hp, hs, rfl⟩
    obtain ⟨hp1, _, hp3⟩ := hp
    have hds' : d'.size = l.length := by rw [hp1, hds]
    have ex : d'.extract 0 l.length = d' := by rw [← hds']; simp
    have ex0 : d.extract 0 l.length = d := by rw [← hds]; simp
    rw [ex, ex0] at hp3
    refine ⟨rfl, d'.toList, hp3, ?_, ?_, ?_⟩
    · rw [List.pairwise_iff_getElem]
      intro i j hi hj hij
      have hi' : i < d'.size := by simpa using hi
      have hj' : j < d'.size := by simpa using hj
      have := hs i j (Nat.zero_le _) hij (by omega)
      rw [getElem!_pos d' i hi', getElem!_pos d' j hj'] at this
      simp only [ltOf, decide_eq_false_iff_not] at this
      simpa using this
    · have hg' : (sortWorldK cs3 3 w g 0 m d' os).heap[g]? = some (.cells (putCells id 0 (flatK cs3 3 d') cur) 23 (0, 0)) := by
        unfold sortWorldK putRowK putRow
        rw [Sort.heap_grow_old _ _ (by simpa [mapBlock, Sort.ahead] using hgl)]
        exact modify_same (w := Sort.ahead w m) hg
      have hfs : (flatK cs3 3 d').size = l.length * 3 := by rw [size_flatK, hds']
      refine ⟨by rw [csT_len], .inr ⟨g, cap, _, by simp [hds'], hBg, hg', by simpa [hds'] using hnc, hcm, by rw [put_size]; exact hcs, ?_⟩⟩
      have := put_take cur (flatK cs3 3 d') (by rw [hfs, hcs]; omega)
      rw [hfs, flat_cells] at this
      simpa [hds'] using this
    · exact ⟨rfl, rfl, rfl, swk_size, fun k hk => swk_other (by omega) (by omega)⟩
  · have hnil : l = [] := List.eq_nil_of_length_eq_zero (by omega)
    subst hnil
    obtain ⟨A, cap, rfl⟩ := owns_form h
    have hcon := AnyF.slices_SortFunc_none Tryd.sortT A cap (.func (.func 34) #[] #[]) w
    change Calls Tryd.prog 55 _ _ _ at hcon
    refine hcon.mono ?_
    rintro e w' ⟨rfl, rfl⟩
    exact ⟨rfl, [], .refl _, .nil, h, Below.refl _ _⟩

theorem rt_of {W : World} {n₀ : Nat} (h : W.ownsRow B 23 3 v l.length (csT l)) (hn : W.heap.size ≤ n₀) (hl : l.length ≤ 1000000) : RT n₀ W v l := by
  by_cases h0 : 0 < l.length
  · obtain ⟨g, cap, cur, rfl, _, hg, _⟩ := owns_open h h0
    have hgl := blk_lt hg
    refine ⟨_, cap, rfl, by omega, fun j hj => ⟨g, 0, rfl, by omega, hgl, ?_, ?_, ?_⟩⟩
    · rw [Nat.zero_add, h.cellAt (j * 3) (by omega), (csT_at l j hj).1]
    · rw [Nat.zero_add, h.cellAt (j * 3 + 1) (by omega), (csT_at l j hj).2.1]
    · rw [Nat.zero_add, h.cellAt (j * 3 + 2) (by omega), (csT_at l j hj).2.2]
  · obtain ⟨A, cap, rfl⟩ := owns_form h
    exact ⟨A, cap, rfl, by omega, fun j hj => absurd hj (by omega)⟩

set_option maxRecDepth 100000 in
theorem sort02_walk {A : Option Addr} {cap : Nat} (h : RT w.heap.size w (.slice A l.length cap) l) (hl : l.length ≤ 1000) : Calls Tryd.prog 37 #[.slice A l.length cap] w fun e w' => ∃ v l', e = .returned v ∧ l'.Perm l ∧ l'.Pairwise (fun a b => ¬ cmpT b a < 0) ∧ w'.ownsRow w.heap.size 23 3 v l'.length (csT l') ∧ Below w.heap.size w w' := by
  have hA : Below w.heap.size w (w.alloc (.cells #[.slice A l.length cap] 27)) := (Gr.alloc _ _).below
  have p1 := blk_new w (.cells #[.slice A l.length cap] 27)
  have hR := append_seq w.heap.size A cap l hl (w.alloc (.cells #[.slice A l.length cap] 27)) (by simp) ((blk_cell p1 0).trans rfl) ((h.below hA).mono_ (by simp))
  replace hR := Aside0.mk hR
  replace hA := Aside0.mk hA
  clear p1 h
  have C54 : Calls Tryd.prog 54 #[.func (.func 56) #[] #[.pointer (some ⟨w.heap.size, 0, none⟩)]] (w.alloc (.cells #[.slice A l.length cap] 27)) fun e w' => ∃ v, e = .returned v ∧ w'.ownsRow (w.alloc (.cells #[.slice A l.length cap] 27)).heap.size 23 3 v l.length (csT l) ∧ Below (w.alloc (.cells #[.slice A l.length cap] 27)).heap.size (w.alloc (.cells #[.slice A l.length cap] 27)) w' := by
    go_enter Tryd.func54, Tryd.ntmps54
    go_wp2_with fail
    go_at_call 66
    refine hR.out.mono ?_
    rintro e w1 ⟨v, rfl, ho, hb⟩
    obtain ⟨a, c, rfl⟩ := owns_form ho
    replace ho := Aside0.mk ho
    replace hb := Aside0.mk hb
    go_wp2_with fail
    go_ret
    exact ⟨_, rfl, ho.out, hb.out⟩
  replace C54 := Aside0.mk C54
  have C47 : Calls Tryd.prog 47 #[.func (.func 56) #[] #[.pointer (some ⟨w.heap.size, 0, none⟩)], .func (.func 34) #[] #[]] (w.alloc (.cells #[.slice A l.length cap] 27)) fun e w' => ∃ v l', e = .returned v ∧ l'.Perm l ∧ l'.Pairwise (fun a b => ¬ cmpT b a < 0) ∧ w'.ownsRow w.heap.size 23 3 v l'.length (csT l') ∧ Below w.heap.size w w' := by
    go_enter Tryd.func47, Tryd.ntmps47
    go_wp2_with fail
    go_at_call 54
    refine C54.out.mono ?_
    rintro e w1 ⟨v, rfl, ho, hb⟩
    obtain ⟨a, c, rfl⟩ := owns_form ho
    have hS := Aside0.mk (sort_walk ho (by omega))
    have hB1 := Aside0.mk (hA.out.trans (hb.mono hA.out.size))
    have hsz := hA.out.size
    clear ho hb
    go_wp2_with fail
    go_at_call 55
    refine hS.out.mono ?_
    rintro e w2 ⟨rfl, l', hp, hs, ho, hb⟩
    have hl' := hp.length_eq
    rw [hl'] at ho
    replace hl' := Aside0.mk hl'
    replace hp := Aside0.mk hp
    replace hs := Aside0.mk hs
    replace ho := Aside0.mk ho
    replace hb := Aside0.mk hb
    go_wp2_with fail
    go_ret
    exact ⟨_, rfl, l', hp.out, hs.out, by rw [hl'.out]; exact owns_base2 ho.out hsz, hB1.out.trans (hb.out.mono hsz)⟩
  replace C47 := Aside0.mk C47
  go_enter Tryd.func37, Tryd.ntmps37
  go_wp2_with (go_at_call 48; refine (values_fn _ _ _ _).mono ?_; rintro e w' ⟨rfl, rfl⟩)
  go_at_call 47
  refine C47.out.mono ?_
  rintro e w1 ⟨v, l', rfl, hp, hs, ho, hb⟩
  obtain ⟨a, c, rfl⟩ := owns_form ho
  replace hp := Aside0.mk hp
  replace hs := Aside0.mk hs
  replace ho := Aside0.mk ho
  replace hb := Aside0.mk hb
  go_wp2_with fail
  go_ret
  exact ⟨_, rfl, l', hp.out, hs.out, ho.out, hb.out⟩
end
end Go.Proofs.YtfgnpplnjgjjkaaDoor.T
