/-
  A map from ids to slots as a plain list of slots: look-up, length, store of a new one, delete; and ranging over it.
-/
import Derived.Test.YtjknmnmilladlaaW10
import Derived.Maps.RangeWalk
namespace Go.Proofs.Ytjknmnmilladlaa
open Go.RowKit Go.MapKept Go.ChangeMaps

def entKV (s : Slot) : Value × Value := (.int .i64 s.id, slotV s)
def eKV (e : MapEntry) : Value × Value := (e.key, e.val)

theorem entKV_inj {a b : Slot} (h : entKV a = entKV b) : a = b := by
  simp only [entKV, slotV, Prod.mk.injEq, Value.agg.injEq, Value.int.injEq] at h
  obtain ⟨_, h2⟩ := h
  simp at h2
  obtain ⟨h3, h4, h5, h6⟩ := h2
  cases a; cases b; simp_all

/-- The entries are the slots, in their order. -/
structure Ents (es : Array MapEntry) (clock : Nat) (L : List Slot) : Prop where
  kv : es.toList.map eKV = L.map entKV
  st : Stamped es clock

def MapIs (w : World) (bm : Nat) (L : List Slot) : Prop := ∃ es clock, w.heap[bm]? = some (.map es clock) ∧ Ents es clock L

theorem MapIs.made (w : World) : MapIs (w.alloc (.map #[] 0)) w.heap.size [] := ⟨#[], 0, heap_alloc_new w _, rfl, stamped_empty 0⟩
theorem MapIs.of_block {w w' : World} {bm : Nat} {L : List Slot} (h : MapIs w bm L) (hb : w'.heap[bm]? = w.heap[bm]?) : MapIs w' bm L := by
  obtain ⟨es, clock, h1, h2⟩ := h
  exact ⟨es, clock, hb.trans h1, h2⟩
theorem MapIs.lt {w : World} {bm : Nat} {L : List Slot} (h : MapIs w bm L) : bm < w.heap.size := by
  obtain ⟨es, clock, h1, h2⟩ := h
  exact (Array.getElem?_eq_some_iff.1 h1).1
theorem MapIs.alloc {w : World} {bm : Nat} {L : List Slot} (h : MapIs w bm L) (o : Obj) : MapIs (w.alloc o) bm L := h.of_block (heap_alloc_old w o h.lt)
theorem MapIs.drew {w : World} {bm : Nat} {L : List Slot} (h : MapIs w bm L) : MapIs w.drew bm L := h
theorem MapIs.below {w w' : World} {B bm : Nat} {L : List Slot} (h : MapIs w bm L) (hB : Below B w w') (hb : bm < B) : MapIs w' bm L := h.of_block (hB.block bm hb)
/-- A map's block has no cells. -/
theorem MapIs.cell {w : World} {bm o : Nat} {L : List Slot} (h : MapIs w bm L) : w.cell? ⟨bm, o, none⟩ = none := by
  obtain ⟨es, clock, h1, h2⟩ := h
  simp [World.cell?, h1]
theorem MapIs.ne {w : World} {bm b o : Nat} {L : List Slot} (h : MapIs w bm L) {u : Value} (hc : w.cell? ⟨b, o, none⟩ = some u) : b ≠ bm := by
  intro e
  subst e
  rw [h.cell] at hc
  cases hc
theorem MapIs.setCell {w : World} {bm : Nat} {L : List Slot} (h : MapIs w bm L) (a : Addr) (u : Value) : MapIs (w.setCell a u) bm L := by
  obtain ⟨es, clock, h1, h2⟩ := h
  refine ⟨es, clock, ?_, h2⟩
  simp only [World.setCell, Array.getElem?_modify]
  split
  · rw [h1]; rfl
  · exact h1

theorem Ents.isKey {es : Array MapEntry} {clock : Nat} {L : List Slot} (h : Ents es clock L) : ∀ x ∈ es.toList, IsKey (.int .i64) x.key := by
  intro x hx
  have : eKV x ∈ L.map entKV := by rw [← h.kv]; exact List.mem_map_of_mem hx
  obtain ⟨s, _, hs⟩ := List.mem_map.1 this
  have : x.key = .int .i64 s.id := (congrArg Prod.fst hs).symm
  rw [this]
  rfl

theorem Ents.at_ {es : Array MapEntry} {clock : Nat} {L : List Slot} (h : Ents es clock L) {j : Nat} {e : MapEntry} (hj : es.toList[j]? = some e) : ∃ s, L[j]? = some s ∧ eKV e = entKV s := by
  have h1 : (es.toList.map eKV)[j]? = some (eKV e) := by rw [List.getElem?_map, hj]; rfl
  rw [h.kv, List.getElem?_map] at h1
  cases hs : L[j]? with
  | none => rw [hs] at h1; cases h1
  | some s => rw [hs] at h1; exact ⟨s, rfl, (Option.some.inj h1).symm⟩

theorem Ents.ids {es : Array MapEntry} {clock : Nat} {L : List Slot} (h : Ents es clock L) : L.Pairwise fun a b => a.id ≠ b.id := by
  have h3 := ((stamped_iff es clock).1 h.st).2.2
  have h4 : (es.toList.map eKV).Pairwise fun a b => a.1 ≠ b.1 := by rw [List.pairwise_map]; exact h3
  rw [h.kv, List.pairwise_map] at h4
  refine h4.imp fun hne he => hne ?_
  simp [entKV, he]
theorem MapIs.ids {w : World} {bm : Nat} {L : List Slot} (h : MapIs w bm L) : L.Pairwise fun a b => a.id ≠ b.id := by
  obtain ⟨es, clock, h1, h2⟩ := h
  exact h2.ids

theorem slot_one {L : List Slot} (h : L.Pairwise fun a b => a.id ≠ b.id) {a b : Slot} (ha : a ∈ L) (hb : b ∈ L) (he : a.id = b.id) : a = b := by
  induction L with
  | nil => simp at ha
  | cons c L ih =>
    obtain ⟨h1, h2⟩ := List.pairwise_cons.1 h
    rcases List.mem_cons.1 ha with rfl | ha'
    · rcases List.mem_cons.1 hb with rfl | hb'
      · rfl
      · exact absurd he (h1 b hb')
    · rcases List.mem_cons.1 hb with rfl | hb'
      · exact absurd he.symm (h1 a ha')
      · exact ih h2 ha' hb'

/-- Where an id lies. -/
theorem Ents.find {es : Array MapEntry} {clock : Nat} {L : List Slot} (h : Ents es clock L) (id : Int) (w : World) :
    ((Instr.findKey 3 (.int .i64 id) es.toList).run Try.prog w = .ok none w ∧ (∀ s ∈ L, s.id ≠ id) ∧ ∀ x ∈ es.toList, x.key ≠ .int .i64 id) ∨
    ∃ j s e, L[j]? = some s ∧ s.id = id ∧ es.toList[j]? = some e ∧ e.key = .int .i64 id ∧ e.val = slotV s ∧ (Instr.findKey 3 (.int .i64 id) es.toList).run Try.prog w = .ok (some (j, slotV s)) w := by
  rcases findNow_spec (d := .int .i64) (k := .int .i64 id) rfl es.toList 0 h.isKey with ⟨f1, f2⟩ | ⟨j, e, f1, f2, f3⟩
  · refine .inl ⟨run_findKey Try.underlying3 f1, fun s hs he => ?_, f2⟩
    have : entKV s ∈ es.toList.map eKV := by rw [h.kv]; exact List.mem_map_of_mem hs
    obtain ⟨x, hx, hxe⟩ := List.mem_map.1 this
    refine f2 x hx ?_
    have : x.key = .int .i64 s.id := congrArg Prod.fst hxe
    rw [this, he]
  · obtain ⟨s, hs, hse⟩ := h.at_ f2
    have hk : e.key = .int .i64 s.id := congrArg Prod.fst hse
    have hv : e.val = slotV s := congrArg Prod.snd hse
    have hid : s.id = id := by rw [hk] at f3; simpa using f3
    refine .inr ⟨j, s, e, hs, hid, f2, f3, hv, ?_⟩
    rw [← hv]
    simpa using run_findKey Try.underlying3 f1

theorem check3 (w : World) (em : Bool) (id : Int) : (Instr.checkKey em 10000 3 (.int .i64 id)).run Try.prog w = .ok () w := run_checkKey (d := .int .i64) Try.underlying3 (by simp [IsKey]) em 9999

/-- 'm[id]': there. -/
theorem MapIs.look_yes {w : World} {bm : Nat} {L : List Slot} (h : MapIs w bm L) {s : Slot} (hs : s ∈ L) (c : Bool) :
    (Instr.lookup 72 (.map (some bm)) (.int .i64 s.id) c).run Try.prog w = .ok (if c then .tuple #[slotV s, .bool true] else slotV s) w := by
  obtain ⟨es, clock, hb, hE⟩ := h
  rcases hE.find s.id w with ⟨_, f2, _⟩ | ⟨j, s', e, hj, hid, _, _, _, f⟩
  · exact absurd rfl (f2 s hs)
  · obtain rfl : s' = s := slot_one hE.ids (List.mem_of_getElem? hj) hs hid
    simp [Instr.lookup, run_underlying Try.underlying72, Go.MapKept.run_getObj_map hb, check3, f, Result.andThen]
/-- .. not there. -/
theorem MapIs.look_no {w : World} {bm : Nat} {L : List Slot} (h : MapIs w bm L) {id : Int} (hs : ∀ s ∈ L, s.id ≠ id) (c : Bool) :
    (Instr.lookup 72 (.map (some bm)) (.int .i64 id) c).run Try.prog w = .ok (if c then .tuple #[slotV ⟨0, 0, 0, 0⟩, .bool false] else slotV ⟨0, 0, 0, 0⟩) w := by
  obtain ⟨es, clock, hb, hE⟩ := h
  rcases hE.find id w with ⟨f, _, _⟩ | ⟨j, s', e, hj, hid, _, _, _, f⟩
  · simp [Instr.lookup, run_underlying Try.underlying72, Go.MapKept.run_getObj_map hb, check3, f, Result.andThen, slotV]
  · exact absurd hid (hs s' (List.mem_of_getElem? hj))

theorem Ents.len {es : Array MapEntry} {clock : Nat} {L : List Slot} (h : Ents es clock L) : es.size = L.length := by
  have := congrArg List.length h.kv
  simpa using this

theorem MapIs.len {w : World} {bm : Nat} {L : List Slot} (h : MapIs w bm L) (ty : TypeId) : (Builtin.len_ #[72] ty #[.map (some bm)]).run Try.prog w = .ok (.int .i64 L.length) w := by
  obtain ⟨es, clock, hb, hE⟩ := h
  simp [Builtin.len_, run_underlying Try.underlying72, Go.MapKept.run_getObj_map hb, goInt, Result.andThen, hE.len]

theorem grown_setBlock {w : World} {b : Nat} {es es' : Array MapEntry} {clock clock' : Nat} (hb : w.heap[b]? = some (.map es clock)) : w.grownBy (setBlock w b (.map es' clock')) (some b) :=
  ⟨rfl, rfl, rfl, by simp [setBlock], fun i _ hi => heap_setBlock_other hb _ (fun e => hi (by rw [e]))⟩

/-- 'm[s.ID] = s', a new one. -/
theorem MapIs.put {w : World} {bm : Nat} {L : List Slot} (h : MapIs w bm L) {s : Slot} (hs : ∀ x ∈ L, x.id ≠ s.id) :
    ∃ w', (Instr.mapUpdate 72 (.map (some bm)) (.int .i64 s.id) (slotV s)).run Try.prog w = .ok () w' ∧ MapIs w' bm (L ++ [s]) ∧ w.mapTurned w' bm := by
  obtain ⟨es, clock, hb, hE⟩ := h
  rcases hE.find s.id w with ⟨f, _, f3⟩ | ⟨j, s', e, hj, hid, _, _, _, f⟩
  · refine ⟨setBlock w bm (.map (es.push { key := .int .i64 s.id, val := slotV s, born := clock }) (clock + 1)), ?_, ⟨_, _, heap_setBlock_same hb _, ?_, stamped_push hE.st f3⟩, ⟨es, clock, _, _, hb, rfl⟩⟩
    · simp [Instr.mapUpdate, run_underlying Try.underlying72, Go.MapKept.run_getObj_map hb, check3, f, Go.MapKept.run_setObj_map _ hb, Result.andThen, setBlock]
    · simp only [Array.toList_push, List.map_append, List.map_cons, List.map_nil, hE.kv]
      rfl
  · exact absurd hid (hs s' (List.mem_of_getElem? hj))

theorem stamped_erase {es : Array MapEntry} {clock : Nat} (h : Stamped es clock) (j : Nat) : Stamped (es.eraseIdxIfInBounds j) clock := by
  have hsub : (es.eraseIdxIfInBounds j).toList.Sublist es.toList := by
    rw [Array.toList_eraseIdxIfInBounds]
    exact List.eraseIdx_sublist _ _
  obtain ⟨h1, h2, h3⟩ := (stamped_iff es clock).1 h
  exact (stamped_iff _ _).2 ⟨fun x hx => h1 x (hsub.subset hx), h2.sublist (hsub.map _), h3.sublist hsub⟩

theorem filter_erase {L : List Slot} (h : L.Pairwise fun a b => a.id ≠ b.id) {j : Nat} {s : Slot} (hj : L[j]? = some s) : L.eraseIdx j = L.filter fun x => decide (x.id ≠ s.id) := by
  induction L generalizing j with
  | nil => simp at hj
  | cons a L ih =>
    obtain ⟨h1, h2⟩ := List.pairwise_cons.1 h
    cases j with
    | zero =>
      simp at hj
      subst hj
      simp only [List.eraseIdx_cons_zero, ne_eq, decide_not]
      rw [List.filter_cons_of_neg (by simp)]
      symm
      rw [List.filter_eq_self]
      intro x hx
      have := h1 x hx
      simp
      omega
    | succ j =>
      simp at hj
      have hs : a.id ≠ s.id := h1 s (List.mem_of_getElem? hj)
      simp only [List.eraseIdx_cons_succ]
      rw [List.filter_cons_of_pos (by simpa using hs), ih h2 hj]

/-- 'delete(m, id)'. -/
theorem MapIs.del {w : World} {bm : Nat} {L : List Slot} (h : MapIs w bm L) (id : Int) (ty : TypeId) :
    ∃ w', (Builtin.delete_ #[72, 3] ty #[.map (some bm), .int .i64 id]).run Try.prog w = .ok (.tuple #[]) w' ∧ MapIs w' bm (L.filter fun x => decide (x.id ≠ id)) ∧ w.mapTurned w' bm := by
  obtain ⟨es, clock, hb, hE⟩ := h
  rcases hE.find id w with ⟨f, f2, _⟩ | ⟨j, s, e, hj, hid, hej, _, _, f⟩
  · refine ⟨setBlock w bm (.map es clock), ?_, ⟨es, clock, heap_setBlock_same hb _, ?_⟩, ⟨es, clock, _, _, hb, rfl⟩⟩
    · simp [Builtin.delete_, run_underlying Try.underlying72, Go.MapKept.run_getObj_map hb, check3, f, Go.MapKept.run_setObj_map _ hb, Result.andThen, setBlock]
    · have : (L.filter fun x => decide (x.id ≠ id)) = L := by
        rw [List.filter_eq_self]
        intro x hx
        simpa using f2 x hx
      rw [this]
      exact hE
  · refine ⟨setBlock w bm (.map (es.eraseIdxIfInBounds j) clock), ?_, ⟨_, clock, heap_setBlock_same hb _, ?_, stamped_erase hE.st j⟩, ⟨es, clock, _, _, hb, rfl⟩⟩
    · simp [Builtin.delete_, run_underlying Try.underlying72, Go.MapKept.run_getObj_map hb, check3, f, Go.MapKept.run_setObj_map _ hb, Result.andThen, setBlock]
    · rw [Array.toList_eraseIdxIfInBounds, map_eraseIdx, hE.kv, ← map_eraseIdx, ← hid, filter_erase hE.ids hj]

/-! ### ranging -/
def RangeIs (w : World) (bm r : Nat) (L left : List Slot) : Prop :=
  ∃ es clock since seen c0, w.heap[bm]? = some (.map es clock) ∧ Ents es clock L ∧ w.heap[r]? = some (.mapIter (some bm) since seen c0) ∧ (∀ x ∈ es.toList, x.born < since) ∧ since ≤ c0 ∧ since ≤ clock ∧
    (leftOf es seen).toList.map eKV = left.map entKV

theorem RangeIs.mapIs {w : World} {bm r : Nat} {L left : List Slot} (h : RangeIs w bm r L left) : MapIs w bm L := by
  obtain ⟨es, clock, since, seen, c0, hb, hE, _⟩ := h
  exact ⟨es, clock, hb, hE⟩
theorem RangeIs.lt {w : World} {bm r : Nat} {L left : List Slot} (h : RangeIs w bm r L left) : r < w.heap.size := by
  obtain ⟨es, clock, since, seen, c0, _, _, hr, _⟩ := h
  exact (Array.getElem?_eq_some_iff.1 hr).1
theorem RangeIs.of_blocks {w w' : World} {bm r : Nat} {L left : List Slot} (h : RangeIs w bm r L left) (hb : w'.heap[bm]? = w.heap[bm]?) (hr : w'.heap[r]? = w.heap[r]?) : RangeIs w' bm r L left := by
  obtain ⟨es, clock, since, seen, c0, h1, h2, h3, h4⟩ := h
  exact ⟨es, clock, since, seen, c0, hb.trans h1, h2, hr.trans h3, h4⟩
theorem RangeIs.alloc {w : World} {bm r : Nat} {L left : List Slot} (h : RangeIs w bm r L left) (o : Obj) : RangeIs (w.alloc o) bm r L left := h.of_blocks (heap_alloc_old w o h.mapIs.lt) (heap_alloc_old w o h.lt)
theorem RangeIs.drew {w : World} {bm r : Nat} {L left : List Slot} (h : RangeIs w bm r L left) : RangeIs w.drew bm r L left := h
theorem RangeIs.below {w w' : World} {B bm r : Nat} {L left : List Slot} (h : RangeIs w bm r L left) (hB : Below B w w') (hb : bm < B) (hr : r < B) : RangeIs w' bm r L left := h.of_blocks (hB.block bm hb) (hB.block r hr)
theorem RangeIs.grown {w w' : World} {row : Option Nat} {bm r : Nat} {L left : List Slot} (h : RangeIs w bm r L left) (hg : w.grownBy w' row) (hb : some bm ≠ row) (hr : some r ≠ row) : RangeIs w' bm r L left :=
  h.of_blocks (hg.block bm h.mapIs.lt hb) (hg.block r h.lt hr)

/-- 'range m'. -/
theorem MapIs.range {w : World} {bm : Nat} {L : List Slot} (h : MapIs w bm L) :
    ∃ w', (Instr.range 72 (.map (some bm))).run Try.prog w = .ok (.pointer (some ⟨w.heap.size, 0, none⟩)) w' ∧ RangeIs w' bm w.heap.size L L ∧ Below w.heap.size w w' ∧ w'.heap.size = w.heap.size + 1 := by
  have hlt := h.lt
  obtain ⟨es, clock, hb, hE⟩ := h
  refine ⟨_, run_range_map w 72 3 29 bm es clock Try.underlying72 hb, ⟨es, clock, clock, #[], clock, (heap_alloc_old w _ hlt).trans hb, hE, heap_alloc_new w _, hE.st.1, Nat.le_refl _, Nat.le_refl _, ?_⟩, (Below.refl _ _).alloc (Nat.le_refl _) _, by simp⟩
  rw [← hE.kv]
  simp only [leftOf, Array.toList_filter]
  congr 1
  rw [List.filter_eq_self]
  simp

theorem left_after {es : Array MapEntry} {seen : Array Nat} (hn : (es.toList.map (·.born)).Nodup) {a b : List MapEntry} {e : MapEntry} (h : (leftOf es seen).toList = a ++ e :: b) : (leftOf es (seen.push e.born)).toList = a ++ b := by
  have h1 : (leftOf es (seen.push e.born)).toList = (leftOf es seen).toList.filter fun x => !(x.born == e.born) := by
    simp only [leftOf, Array.toList_filter, List.filter_filter]
    congr 1
    funext x
    simp only [Array.contains_push, Bool.not_or]
    rw [Bool.and_comm]
  have h2 : ((leftOf es seen).toList.map (·.born)).Nodup := by
    refine hn.sublist ?_
    simp only [leftOf, Array.toList_filter]
    exact List.filter_sublist.map _
  rw [h] at h1 h2
  rw [h1]
  rw [List.map_append, List.map_cons, List.nodup_append] at h2
  obtain ⟨_, h4, h5⟩ := h2
  rw [List.nodup_cons] at h4
  rw [List.filter_append, List.filter_cons_of_neg (by simp)]
  congr 1
  · rw [List.filter_eq_self]
    intro x hx
    have := h5 x.born (List.mem_map_of_mem hx) e.born (by simp)
    simpa using this
  · rw [List.filter_eq_self]
    intro x hx
    have : x.born ≠ e.born := fun he => h4.1 (he ▸ List.mem_map_of_mem hx)
    simpa using this

/-- The step. -/
theorem RangeIs.next {w : World} {bm r : Nat} {L left : List Slot} (h : RangeIs w bm r L left) (ty : TypeId) :
    (left = [] ∧ (Instr.next (.pointer (some ⟨r, 0, none⟩)) false ty).run Try.prog w = .ok (.tuple #[.bool false]) w) ∨
    ∃ s a b w', left = a ++ s :: b ∧ (Instr.next (.pointer (some ⟨r, 0, none⟩)) false ty).run Try.prog w = .ok (.tuple #[.bool true, .int .i64 s.id, slotV s]) w' ∧ RangeIs w' bm r L (a ++ b) ∧ w.grownBy w' (some r) ∧
      w'.heap.size = w.heap.size ∧ (Instr.entry (.pointer (some ⟨r, 0, none⟩))).run Try.prog w' = .ok (.tuple #[.int .i64 s.id, slotV s]) w' := by
  obtain ⟨es, clock, since, seen, c0, hb, hE, hr, hold, hsc, hsk, hleft⟩ := h
  have hne : r ≠ bm := by
    intro e
    rw [e, hb] at hr
    cases hr
  rcases run_next_at (P := Try.prog) w ty r bm since c0 seen es clock hr hb hold hsc with ⟨h0, hrun⟩ | ⟨e, he, w1, hal, hrun⟩
  · refine .inl ⟨?_, hrun⟩
    have : (leftOf es seen).toList = [] := by simpa using h0
    rw [this] at hleft
    cases left with
    | nil => rfl
    | cons a l => simp at hleft
  · obtain ⟨a, b, hab⟩ := List.append_of_mem he
    rw [hab, List.map_append, List.map_cons] at hleft
    obtain ⟨a', sb, hl, ha', hsb⟩ := List.map_eq_append_iff.1 hleft.symm
    obtain ⟨s, b', rfl, hs, hb'⟩ := List.map_eq_cons_iff.1 hsb
    have hk : e.key = .int .i64 s.id := (congrArg Prod.fst hs).symm
    have hv : e.val = slotV s := (congrArg Prod.snd hs).symm
    have hst := (stamped_iff es clock).1 hE.st
    have hem : e ∈ es.toList := by
      simp only [leftOf, Array.toList_filter, List.mem_filter] at he
      exact he.1
    have hr1 : w1.heap[r]? = some (.mapIter (some bm) since seen c0) := by rcases hal with rfl | rfl <;> exact hr
    have hb1 : w1.heap[bm]? = some (.map es clock) := by rcases hal with rfl | rfl <;> exact hb
    have hset := heap_set (o' := .mapIter (some bm) since (seen.push e.born) clock) hr1
    have hent := run_entry_at (P := Try.prog) (setBlock w1 r (.mapIter (some bm) since (seen.push e.born) clock)) r bm since seen es clock e hset.1 ((hset.2 bm (Ne.symm hne)).trans hb1) hem hst.2.1
    rw [hk, hv] at hrun hent
    refine .inr ⟨s, a', b', setBlock w1 r (.mapIter (some bm) since (seen.push e.born) clock), hl, hrun, ⟨es, clock, since, seen.push e.born, clock, (hset.2 bm (Ne.symm hne)).trans hb1, hE, hset.1, hold, hsk, hsk, ?_⟩, ?_, ?_, hent⟩
    · rw [left_after hst.2.1 hab, List.map_append, List.map_append, ha', hb']
    · refine ⟨?_, ?_, ?_, ?_, fun i hi hi2 => ?_⟩
      · rcases hal with rfl | rfl <;> rfl
      · rcases hal with rfl | rfl <;> rfl
      · rcases hal with rfl | rfl <;> rfl
      · rcases hal with rfl | rfl <;> simp [setBlock]
      · have : (setBlock w1 r (.mapIter (some bm) since (seen.push e.born) clock)).heap[i]? = w1.heap[i]? := hset.2 i (fun e => hi2 (by rw [e]))
        rw [this]
        rcases hal with rfl | rfl <;> rfl
    · rcases hal with rfl | rfl <;> simp [setBlock]

end Go.Proofs.Ytjknmnmilladlaa
