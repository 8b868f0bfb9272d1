/-
  Walks: slices.SortFunc at slots (by the library's contract), and the book's Slots.
-/
import Derived.Test.YtjknmnmilladlaaF
import Derived.Test.YtjknmnmilladlaaShelfD
import Derived.Sort.OwnSortedInts
import Derived.Shelf.SlSortCmp.NoneTotal
namespace Go.Proofs.Ytjknmnmilladlaa
open Go.RowKit Go.Sort Go.Proofs Go.Lib

/-! ### a row of cells of the call's own, and what is put into it -/
theorem holds_idV {w : World} {g : Nat} {cur : Array Value} {e : TypeId} {xs : List Value} (hb : w.heap[g]? = some (.cells cur e (0, 0))) (ht : cur.toList.take xs.length = xs) : Holds id w g 0 xs.toArray := by
  intro j hj
  have hj' : j < xs.length := by simpa using hj
  refine ⟨?_, by simp [World.frozen?, hb]⟩
  have h1 : (cur.toList.take xs.length)[j]? = xs[j]? := by rw [ht]
  rw [List.getElem?_take_of_lt hj'] at h1
  simp only [World.cell?, hb, Nat.zero_add]
  simp only [Option.isSome_none, Bool.false_eq_true, if_false]
  rw [← Array.getElem?_toList, h1]
  simp [hj']
theorem heap_idV {w : World} {g n : Nat} {os : Array Obj} {cur : Array Value} {e : TypeId} {fr : Nat × Nat} (d : Array Value) (hb : w.heap[g]? = some (.cells cur e fr)) :
    (grow (putRow id (Sort.ahead w n) g 0 d) os).heap[g]? = some (.cells (putCells id 0 d cur) e fr) := by
  have hg : g < w.heap.size := (Array.getElem?_eq_some_iff.1 hb).1
  rw [heap_grow_old _ _ (by simpa using hg)]
  simp [putRow, mapBlock, Sort.ahead, Array.getElem?_modify, hb, onCells]
theorem grownBy_idV {w : World} {g n : Nat} {os : Array Obj} (d : Array Value) : w.grownBy (grow (putRow id (Sort.ahead w n) g 0 d) os) (some g) := by
  refine ⟨rfl, rfl, rfl, by simp, fun k hk hne => ?_⟩
  rw [heap_grow_old _ _ (by simpa using hk)]
  have : g ≠ k := fun e => hne (by rw [e])
  simp [putRow, mapBlock, Sort.ahead, Array.getElem?_modify, this]
theorem take_putV (cur : Array Value) (ts : List Value) (h : ts.length ≤ cur.size) : (putCells id 0 ts.toArray cur).toList.take ts.length = ts := by
  apply List.ext_getElem?
  intro j
  by_cases hj : j < ts.length
  · rw [List.getElem?_take_of_lt hj, Array.getElem?_toList]
    simp [putCells, hj, show j < cur.size by omega]
  · rw [List.getElem?_take_eq_none (by omega), List.getElem?_eq_none (by omega)]

/-- slots whose numbers fit -/
abbrev FSlot := { s : Slot // 1 ≤ s.id ∧ s.id ≤ 9223372036854775807 }
instance fslot0 : Inhabited FSlot := ⟨⟨⟨1, 0, 0, 0⟩, by simp, by simp⟩⟩
def encF (x : FSlot) : List Value := slotCells x.1
def cmpF (x y : FSlot) : Int := x.1.id - y.1.id

theorem ltF (x y : FSlot) : ltOf cmpF x y = decide (x.1.id < y.1.id) := by
  unfold ltOf cmpF
  congr 1
  simp only [eq_iff_iff]
  omega
theorem swoF : SWO (ltOf cmpF) where
  irrefl x := by rw [ltF]; simp
  trans x y z h1 h2 := by rw [ltF] at *; simp at *; omega
  ntrans x y z h1 h2 := by rw [ltF] at *; simp at *; omega

theorem diff_wrap {a b : Int} (h1 : 1 ≤ a) (h2 : a ≤ 9223372036854775807) (h3 : 1 ≤ b) (h4 : b ≤ 9223372036854775807) : wrap64 (a - b) = a - b := by
  unfold wrap64
  omega

set_option maxHeartbeats 1000000 in
theorem closureF (x y : FSlot) (W : World) : Calls Try.prog 43 #[.agg (encF x).toArray, .agg (encF y).toArray] W fun e w' => e = .returned (.int .i64 (cmpF x y)) ∧ ∃ q os', w' = grow (W.drewN q) os' := by
  obtain ⟨⟨a1, a2, a3, a4⟩, ha⟩ := x
  obtain ⟨⟨b1, b2, b3, b4⟩, hb⟩ := y
  unfold encF cmpF slotCells
  simp only at ha hb ⊢
  have hw := diff_wrap ha.1 ha.2 hb.1 hb.2
  generalize hd : a1 - b1 = d at hw ⊢
  have HD := Lib.hid hd
  have HW := Lib.hid hw
  clear hd hw ha hb
  go_enter Try.func43, Try.ntmps43
  go_wp2_with fail
  go_ret
  exact ⟨ret_int (by rw [HD.out]; exact HW.out), 0, _, by rw [alloc_eq_grow, alloc_eq_grow, grow_grow]; rfl⟩

theorem cmpLaysF (blk off size : Nat) (w : World) : CmpLays Try.prog 43 #[] encF 4 cmpF blk off size w := fun _ _ _ _ x y => closureF x y _

theorem flatK_toList (d : Array FSlot) : (flatK encF 4 d).toList = flatL (d.toList.map (·.1)) := by
  apply List.ext_getElem?
  intro j
  have hl : (flatL (d.toList.map (·.1))).length = d.size * 4 := by rw [length_flatL]; simp
  by_cases hj : j < d.size * 4
  · have h1 := get_flatK encF 4 d j hj
    have hj2 : j < (flatK encF 4 d).size := by simpa using hj
    have h2 : (flatK encF 4 d).toList[j]? = some ((flatK encF 4 d)[j]!) := by
      rw [Array.getElem?_toList, Array.getElem?_eq_getElem hj2, getElem!_pos _ j hj2]
    rw [h2, h1]
    have hd : j / 4 < d.size := by omega
    have h3 := flatL_at (d.toList.map (·.1)) (j / 4) (j % 4) (by simpa using hd)
    rw [show j / 4 * 4 + j % 4 = j by omega, if_pos (by omega)] at h3
    rw [h3]
    have h4 : slv (d.toList.map (·.1)) (j / 4) = (d[j / 4]!).1 := by
      unfold slv
      rw [List.getD_eq_getElem?_getD, List.getElem?_map, Array.getElem?_toList, Array.getElem?_eq_getElem hd, getElem!_pos d (j / 4) hd]
      rfl
    rw [h4]
    have h5 : (encF d[j / 4]!).length = 4 := rfl
    unfold encF at h5 ⊢
    rw [getElem!_pos _ (j % 4) (by rw [h5]; omega), List.getElem?_eq_getElem]
  · rw [List.getElem?_eq_none (by simpa using hj), List.getElem?_eq_none (by omega)]

/-- slices.SortFunc by the slots' numbers. -/
theorem sortSlots {w : World} {B : Nat} {v : Value} {L : List Slot} (h : OwnSlots w B v L) (hid : ∀ s ∈ L, 1 ≤ s.id ∧ s.id ≤ 9223372036854775807) (hlen : L.length < 4611686018427387904) :
    Calls Try.prog 42 #[v, .func (.func 43) #[] #[]] w fun e w' => e = .returned (.tuple #[]) ∧ (∃ L2, L2.Perm L ∧ (L2.Pairwise fun a b => a.id ≤ b.id) ∧ OwnSlots w' B v L2) ∧ w.grownBy w' v.ownBlock := by
  rcases h.2 with ⟨rfl, h0⟩ | ⟨g, cap, cur, rfl, hg, hb, h1, h2, h3, ht⟩
  · have hle : L = [] := List.length_eq_zero_iff.1 h0
    subst hle
    refine (AnyF.slices_SortFunc_none Try.sortSlots none 0 _ w).mono ?_
    rintro e w' ⟨he, rfl⟩
    exact ⟨he, ⟨[], List.Perm.refl _, by simp, h⟩, ⟨rfl, rfl, rfl, Nat.le_refl _, fun _ _ _ => rfl⟩⟩
  · have hlt : g < w.heap.size := (Array.getElem?_eq_some_iff.1 hb).1
    obtain ⟨d, hd⟩ : ∃ d : List FSlot, d.map (·.1) = L := ⟨L.attach.map fun x => ⟨x.1, hid x.1 x.2⟩, by simp [List.map_map, Function.comp_def]⟩
    have hdl : d.length = L.length := by rw [← hd]; simp
    have hflat : (flatK encF 4 d.toArray).toList = flatL L := by rw [flatK_toList, ← hd]
    have htl : (flatL L).length = L.length * 4 := length_flatL L
    have hH : HoldsK encF 4 w g 0 d.toArray := by
      unfold HoldsK
      have e1 : flatK encF 4 d.toArray = (flatL L).toArray := by rw [← hflat]
      rw [e1]
      exact holds_idV hb (by rw [htl]; exact ht)
    have eg : ∀ args w, (callFunc 43 args).run Try.prog w = .ok (.enter 43 args) w := enters_of Try.func43 (by kernel_rfl) rfl
    have hcon := AnyQ.slices_SortFunc Try.sortSlots 4 Try.isAgg29 Try.sizeOf29 encF (fun _ => rfl) (fun x v hv => by simp [encF, slotCells] at hv; rcases hv with rfl | rfl | rfl | rfl <;> rfl) cmpF swoF 43 #[] g 0 cap d.toArray w eg (cmpLaysF g 0 d.toArray.size w) hH hlt (by simpa [hdl] using hlen)
    have hsz : d.toArray.size = L.length := by simpa using hdl
    rw [hsz] at hcon
    refine hcon.mono ?_
    rintro e w' ⟨he, d', n, os, hp, hs, rfl⟩
    obtain ⟨p1, p2, p3⟩ := hp
    have hd's : d'.size = L.length := by rw [p1]; exact hsz
    have hperm : (d'.toList.map (·.1)).Perm L := by
      rw [← hd]
      refine List.Perm.map _ ?_
      have e1 : d'.extract 0 L.length = d' := by rw [← hd's]; simp
      have e2 : d.toArray.extract 0 L.length = d.toArray := by rw [← hsz]; simp
      rw [e1, e2] at p3
      exact p3
    have hl2 : (d'.toList.map (·.1)).length = L.length := by simpa using hd's
    have hown : (sortWorldK encF 4 w g 0 n d' os).ownsRow B 29 4 (.slice (some ⟨g, 0, none⟩) L.length cap) L.length (flatL (d'.toList.map (·.1))) := by
      refine ⟨by rw [length_flatL, hl2], .inr ⟨g, cap, _, rfl, hg, heap_idV _ hb, h1, h2, by simp [putCells, h3], ?_⟩⟩
      have e1 : flatK encF 4 d' = (flatL (d'.toList.map (·.1))).toArray := by rw [← flatK_toList]
      have e2 : L.length * 4 = (flatL (d'.toList.map (·.1))).length := by rw [length_flatL, hl2]
      rw [e1, e2]
      exact take_putV cur _ (by rw [← e2, h3]; exact Nat.mul_le_mul_right 4 h1)
    refine ⟨he, ⟨d'.toList.map (·.1), hperm, ?_, ?_⟩, ?_⟩
    · rw [List.pairwise_map, List.pairwise_iff_getElem]
      intro i j hi hj hij
      have hi' : i < d'.size := by simpa using hi
      have hj' : j < d'.size := by simpa using hj
      have := hs i j (Nat.zero_le _) hij (by omega)
      rw [ltF, getElem!_pos d' i hi', getElem!_pos d' j hj'] at this
      simp at this ⊢
      omega
    · unfold OwnSlots
      rw [hl2]
      exact hown
    · have : (Value.slice (some ⟨g, 0, none⟩) L.length cap).ownBlock = some g := by simp [Value.ownBlock]
      rw [this]
      exact grownBy_idV _

end Go.Proofs.Ytjknmnmilladlaa
