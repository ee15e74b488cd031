/- The library's sort at the rows of layer 20. -/
import Derived.Test.YtmhpogajklihdaaDoorCCopy
import Derived.Shelf.SlSortCmp.NoneTotal
namespace Go.Proofs.YtmhpogajklihdaaDoor.C
open Go.RowKit Go.Shelf Go.Lib Go.Sort Go.Proofs.YtmhpogajklihdaaDoorW.PrintWords

theorem owns_open {W : World} {B n : Nat} {e : TypeId} {size : Nat} {v : Value} {xs : List Value} (h : W.ownsRow B e size v n xs) (hn : 0 < n) :
    ∃ g cap cur, v = .slice (some ⟨g, 0, none⟩) n cap ∧ B ≤ g ∧ W.heap[g]? = some (.cells cur e (0, 0)) ∧ n ≤ cap ∧ cap ≤ maxLen ∧ cur.size = cap * size ∧ cur.toList.take (n * size) = xs := by
  rcases h.2 with ⟨_, rfl⟩ | ⟨g, cap, cur, h1, h2, h3, h4, h5, h6, h7⟩
  · omega
  · exact ⟨g, cap, cur, h1, h2, h3, h4, h5, h6, h7⟩

section
variable {w : World} {B : Nat} {v : Value} {l : List P}

/-- A match with ids that lie in a row of the call's own. -/
abbrev Q (w : World) (B : Nat) := {p : P // IdOwn w B p.2.2 p.2.1}
def encQ {w : World} {B : Nat} (p : Q w B) : List Value := [.string p.1.1, p.1.2.2]
theorem ids_one {W : World} {u : Value} {ids : List Int} (h : IdOwn W B u ids) : u.oneCell' = true := by
  obtain ⟨a, c, rfl⟩ := owns_form h
  rfl

theorem cellsP_len : ∀ l : List P, (cellsP l).length = l.length * 2
  | [] => rfl
  | p :: l => by
    have e : cellsP (p :: l) = .string p.1 :: p.2.2 :: cellsP l := rfl
    rw [e, List.length_cons, List.length_cons, cellsP_len l, List.length_cons]
    omega

theorem flat_cells [Inhabited (Q w B)] (d : Array (Q w B)) : (flatK encQ 2 d).toList = cellsP (d.toList.map (·.1)) := by
  apply List.ext_getElem?
  intro t
  by_cases ht : t < d.size * 2
  · have h1 := get_flatK encQ 2 d t ht
    have hs : t < (flatK encQ 2 d).size := by simpa using ht
    rw [getElem!_pos _ t hs] at h1
    have hd : t / 2 < d.size := by omega
    have e1 : (flatK encQ 2 d).toList[t]? = some (encQ d[t / 2]!)[t % 2]! := by
      rw [Array.getElem?_toList, Array.getElem?_eq_getElem hs, h1]
    rw [e1, getElem!_pos d (t / 2) hd]
    have hl : t / 2 < (d.toList.map (·.1)).length := by simpa using hd
    obtain ⟨c0, c1⟩ := cellsP_at (d.toList.map (·.1)) (t / 2) hl
    rcases Nat.mod_two_eq_zero_or_one t with q | q
    · have e2 : t / 2 * 2 = t := by omega
      rw [e2] at c0
      rw [c0, q]
      simp [encQ]
    · have e2 : t / 2 * 2 + 1 = t := by omega
      rw [e2] at c1
      rw [c1, q]
      simp [encQ]
  · rw [List.getElem?_eq_none (by simp; omega), List.getElem?_eq_none (by rw [cellsP_len]; simp; omega)]

theorem modify_other {w : World} {blk : Nat} {f : Array Value → Array Value} {k : Nat} (h : k ≠ blk) : (mapBlock w blk f).heap[k]? = w.heap[k]? := by
  unfold mapBlock
  rw [Array.getElem?_modify, if_neg (fun e => h e.symm)]
theorem modify_same {w : World} {blk : Nat} {f : Array Value → Array Value} {cur : Array Value} {t : TypeId} (h : w.heap[blk]? = some (.cells cur t (0, 0))) : (mapBlock w blk f).heap[blk]? = some (.cells (f cur) t (0, 0)) := by
  unfold mapBlock
  rw [Array.getElem?_modify, if_pos rfl, h]
  rfl

/-- The worlds that the sort passes through. -/
theorem swk_other [Inhabited (Q w B)] {blk m : Nat} {dk : Array (Q w B)} {os : Array Obj} {k : Nat} (hk : k < w.heap.size) (h : k ≠ blk) : (sortWorldK encQ 2 w blk 0 m dk os).heap[k]? = w.heap[k]? := by
  unfold sortWorldK putRowK putRow
  rw [heap_grow_old _ _ (by simp [mapBlock, Sort.ahead]; exact hk), modify_other h]
  rfl
theorem swk_size [Inhabited (Q w B)] {blk m : Nat} {dk : Array (Q w B)} {os : Array Obj} : w.heap.size ≤ (sortWorldK encQ 2 w blk 0 m dk os).heap.size := by
  unfold sortWorldK
  show w.heap.size ≤ ((putRowK encQ 2 (Sort.ahead w m) blk 0 dk).heap ++ os).size
  rw [Array.size_append]
  have : (putRowK encQ 2 (Sort.ahead w m) blk 0 dk).heap.size = w.heap.size := by simp [putRowK, putRow, mapBlock, Sort.ahead]
  omega
theorem put_take (cur : Array Value) (d : Array Value) (h : d.size ≤ cur.size) : (putCells id 0 d cur).toList.take d.size = d.toList := by
  apply List.ext_getElem?
  intro t
  rw [List.getElem?_take]
  by_cases ht : t < d.size
  · rw [if_pos ht, Array.getElem?_toList, Array.getElem?_toList]
    unfold putCells
    have h1 : t < cur.size := by omega
    rw [Array.getElem?_mapIdx, Array.getElem?_eq_getElem h1, Array.getElem?_eq_getElem ht]
    simp [ht]
  · rw [if_neg ht, Array.getElem?_toList, Array.getElem?_eq_none (by omega)]
theorem put_size (cur d : Array Value) : (putCells id 0 d cur).size = cur.size := by simp [putCells]

set_option maxHeartbeats 1000000 in
theorem sort_walk (h : Owns w B 24 v l) (hl : l.length ≤ 100000) : Calls Tryd.prog 30 #[v, .func (.func 13) #[] #[]] w fun e w' => e = .returned (.tuple #[]) ∧ ∃ l', l'.Perm l ∧ (l'.map key).Pairwise (fun a b => ¬ ltM b a) ∧ Owns w' B 24 v l' ∧ Below B w w' := by
  by_cases hn : 0 < l.length
  · obtain ⟨g, cap, cur, rfl, hBg, hg, hnc, hcm, hcs, htk⟩ := owns_open h.1 hn
    have hgl := blk_lt hg
    -- the row as an array of its elements
    let d : Array (Q w B) := (l.attach.map fun p => (⟨p.1, h.2 p.1 p.2⟩ : Q w B)).toArray
    have hds : d.size = l.length := by simp [d]
    have hdl : d.toList.map (·.1) = l := by
      show ((l.attach.map fun p => (⟨p.1, h.2 p.1 p.2⟩ : Q w B)).toArray.toList).map (·.1) = l
      rw [List.toList_toArray, List.map_map]
      exact List.attach_map_subtype_val l
    haveI : Inhabited (Q w B) := ⟨d[0]'(by omega)⟩
    have hk : ∀ x : Q w B, (encQ x).length = 2 := fun _ => rfl
    have h1 : ∀ x : Q w B, ∀ u ∈ encQ x, u.oneCell' = true := fun x u hu => by
      simp [encQ] at hu
      rcases hu with rfl | rfl
      · rfl
      · exact ids_one x.2
    have ne : ∀ x : Q w B, ∀ b, x.1.2.2.ownBlock = some b → b ≠ g := fun x b hb e => by
      subst e
      obtain ⟨c, hc⟩ := own_typed x.2 b hb
      rw [hg] at hc; cases hc
    have hcmp : CmpLays Tryd.prog 13 #[] encQ 2 (fun x y : Q w B => cmpM (key x.1) (key y.1)) g 0 d.size w := fun m os dk hs x y => by
      have mv : ∀ z : Q w B, IdsAt (sortWorldK encQ 2 w g 0 m dk os) z.1.2.2 z.1.2.1 := fun z =>
        IdOwn.at_ (B := B) (owns_move z.2 fun b _ hlt hb => swk_other hlt (ne z b hb))
      exact (compare_walk (key x.1) (key y.1) (mv x) (mv y)).mono fun e w2 ⟨e1, q, os', e2⟩ => ⟨e1, q, os', e2⟩
    have hH : HoldsK encQ 2 w g 0 d := fun j hj => by
      have hj' : j < d.size * 2 := by simpa using hj
      have e1 : (flatK encQ 2 d).toList[j]? = (cellsP l)[j]? := by rw [flat_cells, hdl]
      have e2 : (cellsP l)[j]? = cur[j]? := by
        rw [← htk, List.getElem?_take, if_pos (by omega), Array.getElem?_toList]
      refine ⟨?_, blk_frozen hg _⟩
      have hs : j < (flatK encQ 2 d).size := by simpa using hj'
      rw [blk_cell hg, Nat.zero_add, ← e2, ← e1, Array.getElem?_toList, Array.getElem?_eq_getElem hs, getElem!_pos _ j hs]
      rfl
    have hO : SWO (ltOf fun x y : Q w B => cmpM (key x.1) (key y.1)) := ⟨fun x => swoM.irrefl (key x.1), fun x y z => swoM.trans (key x.1) (key y.1) (key z.1), fun x y z => swoM.ntrans (key x.1) (key y.1) (key z.1)⟩
    have hcon := AnyQ.slices_SortFunc Tryd.sortM 2 (fun w => by kernel_rfl) (fun w => by kernel_rfl) encQ hk h1 (fun x y : Q w B => cmpM (key x.1) (key y.1)) hO 13 #[] g 0 cap d w (enters_of Tryd.func13 (by kernel_rfl) rfl) hcmp hH hgl (by omega)
    change Calls Tryd.prog 30 _ _ _ at hcon
    rw [hds] at hcon
    refine hcon.mono ?_
    rintro e w' ⟨rfl, d', m, os, hp, hs, rfl⟩
    obtain ⟨hp1, _, hp3⟩ := hp
    have hds' : d'.size = l.length := by rw [hp1, hds]
    have ex : d'.extract 0 l.length = d' := by rw [← hds']; simp
    have ex0 : d.extract 0 l.length = d := by rw [← hds]; simp
    rw [ex, ex0] at hp3
    refine ⟨rfl, d'.toList.map (·.1), ?_, ?_, ⟨?_, ?_⟩, ?_⟩
    · rw [← hdl]; exact hp3.map _
    · rw [List.map_map, List.pairwise_map, List.pairwise_iff_getElem]
      intro i j hi hj hij
      have hi' : i < d'.size := by simpa using hi
      have hj' : j < d'.size := by simpa using hj
      have := hs i j (Nat.zero_le _) hij (by omega)
      rw [getElem!_pos d' i hi', getElem!_pos d' j hj'] at this
      simp only [ltOf, decide_eq_false_iff_not] at this
      simpa [ltM] using this
    · have hg' : (sortWorldK encQ 2 w g 0 m d' os).heap[g]? = some (.cells (putCells id 0 (flatK encQ 2 d') cur) 24 (0, 0)) := by
        unfold sortWorldK putRowK putRow
        rw [heap_grow_old _ _ (by simpa [mapBlock, Sort.ahead] using hgl)]
        exact modify_same (w := Sort.ahead w m) hg
      have hfs : (flatK encQ 2 d').size = l.length * 2 := by rw [size_flatK, hds']
      refine ⟨by rw [cellsP_len], .inr ⟨g, cap, _, by simp [hds'], hBg, hg', by simpa [hds'] using hnc, hcm, by rw [put_size]; exact hcs, ?_⟩⟩
      have := put_take cur (flatK encQ 2 d') (by rw [hfs, hcs]; omega)
      rw [hfs, flat_cells] at this
      simpa [hds'] using this
    · intro p hp
      obtain ⟨x, _, rfl⟩ := List.mem_map.1 hp
      exact owns_move x.2 fun b _ hlt hb => swk_other hlt (ne x b hb)
    · exact ⟨rfl, rfl, rfl, swk_size, fun k hk => swk_other (by omega) (by omega)⟩
  · have hnil : l = [] := List.eq_nil_of_length_eq_zero (by omega)
    subst hnil
    obtain ⟨A, cap, rfl⟩ := owns_form h.1
    have hcon := AnyF.slices_SortFunc_none Tryd.sortM A cap (.func (.func 13) #[] #[]) w
    change Calls Tryd.prog 30 _ _ _ at hcon
    refine hcon.mono ?_
    rintro e w' ⟨rfl, rfl⟩
    exact ⟨rfl, [], .refl _, .nil, h, Below.refl _ _⟩
end
end Go.Proofs.YtmhpogajklihdaaDoor.C
