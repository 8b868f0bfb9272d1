/-
  The book in memory: its block, its map's block, and how it is carried.
-/
import Derived.Test.YtjknmnmilladlaaM1
namespace Go.Proofs.Ytjknmnmilladlaa
open Go.RowKit Go.MapKept Go.ChangeMaps

/-- w' is w but for the blocks bk and bm, and for new blocks. -/
structure Kept (bk bm : Nat) (w w' : World) : Prop where
  os : w'.os = w.os
  tape : w'.tape = w.tape
  output : w'.output = w.output
  size : w.heap.size ≤ w'.heap.size
  block : ∀ k, k < w.heap.size → k ≠ bk → k ≠ bm → w'.heap[k]? = w.heap[k]?

theorem Kept.refl (bk bm : Nat) (w : World) : Kept bk bm w w := ⟨rfl, rfl, rfl, Nat.le_refl _, fun _ _ _ _ => rfl⟩
theorem Kept.trans {bk bm : Nat} {a b c : World} (h : Kept bk bm a b) (k : Kept bk bm b c) : Kept bk bm a c :=
  ⟨k.os.trans h.os, k.tape.trans h.tape, k.output.trans h.output, Nat.le_trans h.size k.size, fun i hi h1 h2 => (k.block i (Nat.lt_of_lt_of_le hi h.size) h1 h2).trans (h.block i hi h1 h2)⟩
theorem Kept.of_below {bk bm : Nat} {w w' : World} (h : Below w.heap.size w w') : Kept bk bm w w' := ⟨h.os, h.tape, h.output, h.size, fun k hk _ _ => h.block k hk⟩
theorem Kept.drew {bk bm : Nat} {a w : World} (h : Kept bk bm a w) : Kept bk bm a w.drew := ⟨h.os, h.tape, h.output, h.size, h.block⟩
theorem Kept.alloc {bk bm : Nat} {a w : World} (h : Kept bk bm a w) (o : Obj) : Kept bk bm a (w.alloc o) := h.trans (.of_below ((Below.refl _ _).alloc (Nat.le_refl _) o))
theorem Kept.set {bk bm : Nat} {a w : World} (h : Kept bk bm a w) (o : Nat) (u : Value) : Kept bk bm a (w.setCell ⟨bk, o, none⟩ u) :=
  h.trans ⟨rfl, rfl, rfl, by simp [World.setCell], fun k _ h1 _ => Below.heap_setCell _ _ _ _ h1⟩
theorem Kept.turned {bk bm : Nat} {a w w' : World} (h : Kept bk bm a w) (ht : w.mapTurned w' bm) : Kept bk bm a w' :=
  h.trans ⟨ht.grown.os, ht.grown.tape, ht.grown.output, ht.grown.size, fun k hk _ h2 => ht.grown.block k hk (fun e => h2 (by cases e; rfl))⟩
/-- Where both blocks are new, nothing old has turned. -/
theorem Kept.below {bk bm B : Nat} {w w' : World} (h : Kept bk bm w w') (h1 : B ≤ bk) (h2 : B ≤ bm) (h3 : B ≤ w.heap.size) : Below B w w' :=
  ⟨h.os, h.tape, h.output, h.size, fun k hk => h.block k (by omega) (by omega) (by omega)⟩
theorem Kept.cell {bk bm : Nat} {w w' : World} (h : Kept bk bm w w') {b o : Nat} (hb : b < w.heap.size) (h1 : b ≠ bk) (h2 : b ≠ bm) : w'.cell? ⟨b, o, none⟩ = w.cell? ⟨b, o, none⟩ := World.cell?_of_block (w := w) (h.block b hb h1 h2)

/-- A slice's row does not lie in block bk. -/
def Apart (bk : Nat) (v : Value) : Prop := ∀ a n cap, v = .slice (some a) n cap → 0 < n → a.block ≠ bk

theorem Apart.own {w : World} {B e k bk n : Nat} {v : Value} {xs : List Value} (h : w.ownsRow B e k v n xs) (hB : bk < B) : Apart bk v := by
  intro a n' cap hv _ hb
  rcases h.2 with ⟨h1, _⟩ | ⟨g, cap', cur, h1, h2, _⟩
  · rw [h1] at hv; cases hv
  · rw [h1] at hv
    cases hv
    have hb2 : g = bk := hb
    omega
theorem IsRow.kept {w w' : World} {bk bm k : Nat} {v : Value} {n : Nat} {xs : List Value} {L : List Slot} (hk : 0 < k) (h : IsRow w k v n xs) (hK : Kept bk bm w w') (ha : Apart bk v) (hm : MapIs w bm L) : IsRow w' k v n xs := by
  obtain ⟨hl, ao, cap, rfl, h1, h2, h3⟩ := h
  refine ⟨hl, ao, cap, rfl, h1, h2, fun hn => ?_⟩
  obtain ⟨b, off, rfl, hr⟩ := h3 hn
  have hx : xs ≠ [] := by
    intro e
    rw [e] at hl
    have : 0 < n * k := Nat.mul_pos hn hk
    simp at hl
    omega
  have hlt := hr.lt hx
  have hne : b ≠ bk := ha _ _ _ rfl hn
  have hnm : b ≠ bm := by
    cases xs with
    | nil => exact absurd rfl hx
    | cons x xs => exact hm.ne (hr 0 x rfl)
  exact ⟨b, off, rfl, hr.same fun o => hK.cell hlt hne hnm⟩

/-- The book's block, and all it leads to. -/
structure BookIs (w : World) (bk bm : Nat) (n : Int) (up fr : List Step) (L : List Slot) : Prop where
  c0 : w.cell? ⟨bk, 0, none⟩ = some (.int .i64 n)
  c1 : ∃ vu, w.cell? ⟨bk, 1, none⟩ = some vu ∧ IsSteps w vu up ∧ Apart bk vu
  c2 : ∃ vf, w.cell? ⟨bk, 2, none⟩ = some vf ∧ IsSteps w vf fr ∧ Apart bk vf
  c3 : w.cell? ⟨bk, 3, none⟩ = some (.map (some bm))
  fz : ∀ o, w.frozen? ⟨bk, o, none⟩ = false
  map : MapIs w bm L

theorem BookIs.lt {w : World} {bk bm : Nat} {n : Int} {up fr : List Step} {L : List Slot} (h : BookIs w bk bm n up fr L) : bk < w.heap.size := World.block_lt_of_cell? w _ h.c0
theorem BookIs.ne {w : World} {bk bm : Nat} {n : Int} {up fr : List Step} {L : List Slot} (h : BookIs w bk bm n up fr L) : bk ≠ bm := h.map.ne h.c0

theorem BookIs.below {w w' : World} {bk bm : Nat} {n : Int} {up fr : List Step} {L : List Slot} (h : BookIs w bk bm n up fr L) (hB : Below w.heap.size w w') : BookIs w' bk bm n up fr L := by
  have hc : ∀ o, w'.cell? ⟨bk, o, none⟩ = w.cell? ⟨bk, o, none⟩ := fun o => hB.cell (p := ⟨bk, o, none⟩) h.lt
  obtain ⟨vu, u1, u2, u3⟩ := h.c1
  obtain ⟨vf, f1, f2, f3⟩ := h.c2
  exact ⟨(hc 0).trans h.c0, ⟨vu, (hc 1).trans u1, u2.below hB, u3⟩, ⟨vf, (hc 2).trans f1, f2.below hB, f3⟩, (hc 3).trans h.c3, fun o => (hB.frozen (p := ⟨bk, o, none⟩) h.lt).trans (h.fz o), h.map.below hB h.map.lt⟩
theorem BookIs.drew {w : World} {bk bm : Nat} {n : Int} {up fr : List Step} {L : List Slot} (h : BookIs w bk bm n up fr L) : BookIs w.drew bk bm n up fr L := h.below ((Below.refl _ _).drew)
theorem BookIs.alloc {w : World} {bk bm : Nat} {n : Int} {up fr : List Step} {L : List Slot} (h : BookIs w bk bm n up fr L) (o : Obj) : BookIs (w.alloc o) bk bm n up fr L := h.below ((Below.refl _ _).alloc (Nat.le_refl _) o)

theorem cell_set_same {w : World} {b o : Nat} {u v : Value} (h : w.cell? ⟨b, o, none⟩ = some u) : (w.setCell ⟨b, o, none⟩ v).cell? ⟨b, o, none⟩ = some v := by
  unfold World.cell? at h ⊢
  simp only [World.setCell, Array.getElem?_modify] at h ⊢
  simp at h ⊢
  split at h
  · rename_i c e f hb
    rw [hb]
    simp
    have := (Array.getElem?_eq_some_iff.1 h).1
    simp [this]
  · cases h
theorem cell_set_other {w : World} {b o b' o' : Nat} {v : Value} (h : b' ≠ b ∨ o' ≠ o) : (w.setCell ⟨b, o, none⟩ v).cell? ⟨b', o', none⟩ = w.cell? ⟨b', o', none⟩ := by
  unfold World.cell?
  simp only [World.setCell, Array.getElem?_modify]
  by_cases hb : b = b'
  · subst hb
    simp
    cases hw : w.heap[b]? with
    | none => simp
    | some x =>
      cases x <;> simp
      rename_i c e f
      have : o ≠ o' := by rcases h with h | h <;> omega
      simp [this]
  · simp [hb]
theorem frozen_set {w : World} {b o : Nat} {v : Value} (a : Addr) : (w.setCell ⟨b, o, none⟩ v).frozen? a = w.frozen? a := by
  unfold World.frozen?
  simp only [World.setCell, Array.getElem?_modify]
  by_cases hb : b = a.block
  · subst hb
    simp
    cases hw : w.heap[a.block]? with
    | none => simp
    | some x => cases x <;> simp
  · simp [hb]

/-- 'b.free = v'. -/
theorem BookIs.setFree {w : World} {bk bm : Nat} {n : Int} {up fr fr' : List Step} {L : List Slot} (h : BookIs w bk bm n up fr L) {v : Value} (hv : IsSteps w v fr') (ha : Apart bk v) : BookIs (w.setCell ⟨bk, 2, none⟩ v) bk bm n up fr' L := by
  have hK : Kept bk bm w (w.setCell ⟨bk, 2, none⟩ v) := (Kept.refl bk bm w).set 2 v
  obtain ⟨vu, u1, u2, u3⟩ := h.c1
  obtain ⟨vf, f1, f2, f3⟩ := h.c2
  exact ⟨(cell_set_other (.inr (by decide))).trans h.c0, ⟨vu, (cell_set_other (.inr (by decide))).trans u1, IsRow.kept (by decide) u2 hK u3 h.map, u3⟩, ⟨v, cell_set_same f1, IsRow.kept (by decide) hv hK ha h.map, ha⟩,
    (cell_set_other (.inr (by decide))).trans h.c3, fun o => (frozen_set _).trans (h.fz o), h.map.setCell _ _⟩
/-- 'b.up = v'. -/
theorem BookIs.setUp {w : World} {bk bm : Nat} {n : Int} {up up' fr : List Step} {L : List Slot} (h : BookIs w bk bm n up fr L) {v : Value} (hv : IsSteps w v up') (ha : Apart bk v) : BookIs (w.setCell ⟨bk, 1, none⟩ v) bk bm n up' fr L := by
  have hK : Kept bk bm w (w.setCell ⟨bk, 1, none⟩ v) := (Kept.refl bk bm w).set 1 v
  obtain ⟨vu, u1, u2, u3⟩ := h.c1
  obtain ⟨vf, f1, f2, f3⟩ := h.c2
  exact ⟨(cell_set_other (.inr (by decide))).trans h.c0, ⟨v, cell_set_same u1, IsRow.kept (by decide) hv hK ha h.map, ha⟩, ⟨vf, (cell_set_other (.inr (by decide))).trans f1, IsRow.kept (by decide) f2 hK f3 h.map, f3⟩,
    (cell_set_other (.inr (by decide))).trans h.c3, fun o => (frozen_set _).trans (h.fz o), h.map.setCell _ _⟩
/-- The map was written. -/
theorem BookIs.turned {w w' : World} {bk bm : Nat} {n : Int} {up fr : List Step} {L L' : List Slot} (h : BookIs w bk bm n up fr L) (ht : w.mapTurned w' bm) (hm : MapIs w' bm L') : BookIs w' bk bm n up fr L' := by
  have hK : Kept bk bm w w' := (Kept.refl bk bm w).turned ht
  have hc : ∀ o, w'.cell? ⟨bk, o, none⟩ = w.cell? ⟨bk, o, none⟩ := fun o => World.cell?_of_block (w := w) (ht.grown.block bk h.lt (fun e => h.ne (by cases e; rfl)))
  obtain ⟨vu, u1, u2, u3⟩ := h.c1
  obtain ⟨vf, f1, f2, f3⟩ := h.c2
  exact ⟨(hc 0).trans h.c0, ⟨vu, (hc 1).trans u1, IsRow.kept (by decide) u2 hK u3 h.map, u3⟩, ⟨vf, (hc 2).trans f1, IsRow.kept (by decide) f2 hK f3 h.map, f3⟩, (hc 3).trans h.c3, fun o => (ht.frozen _).trans (h.fz o), hm⟩

/-! ### which blocks the book's rows keep clear of -/
def AwayB (w : World) (bk X : Nat) : Prop := ∀ x, (w.cell? ⟨bk, 1, none⟩ = some x ∨ w.cell? ⟨bk, 2, none⟩ = some x) → Apart X x
theorem AwayB.below {w w' : World} {bk X : Nat} (hA : AwayB w bk X) (hB : Below w.heap.size w w') (hlt : bk < w.heap.size) : AwayB w' bk X := by
  intro x hx
  rw [hB.cell (p := ⟨bk, 1, none⟩) hlt, hB.cell (p := ⟨bk, 2, none⟩) hlt] at hx
  exact hA x hx
theorem Apart.of_lt {w : World} {v : Value} {l : List Step} {X : Nat} (h : IsSteps w v l) (hX : w.heap.size ≤ X) : Apart X v := by
  intro a n' cap' hv hn he
  have hl : n' = l.length := by
    obtain ⟨_, ao, cap, h0, _⟩ := h
    rw [h0] at hv
    cases hv
    rfl
  obtain ⟨b, off, cap, h0, _, _, hlt, _⟩ := h.cells (by omega)
  rw [h0] at hv
  cases hv
  have he2 : b = X := he
  omega
theorem BookIs.away {w : World} {bk bm X : Nat} {n : Int} {up fr : List Step} {L : List Slot} (h : BookIs w bk bm n up fr L) (hX : w.heap.size ≤ X) : AwayB w bk X := by
  obtain ⟨vu, u1, u2, _⟩ := h.c1
  obtain ⟨vf, f1, f2, _⟩ := h.c2
  intro x hx
  rw [u1, f1] at hx
  rcases hx with hx | hx
  · cases hx; exact Apart.of_lt u2 hX
  · cases hx; exact Apart.of_lt f2 hX
theorem IsRow.setOut {w : World} {k X o : Nat} {u v : Value} {n : Nat} {xs : List Value} (h : IsRow w k v n xs) (hA : Apart X v) : IsRow (w.setCell ⟨X, o, none⟩ u) k v n xs := by
  obtain ⟨hl, ao, cap, rfl, h1, h2, h3⟩ := h
  refine ⟨hl, ao, cap, rfl, h1, h2, fun hn => ?_⟩
  obtain ⟨b, off, rfl, hr⟩ := h3 hn
  have hne : b ≠ X := hA _ _ _ rfl hn
  exact ⟨b, off, rfl, hr.same fun _ => cell_set_other (.inl hne)⟩
theorem BookIs.setOut {w : World} {bk bm X : Nat} {n : Int} {up fr : List Step} {L : List Slot} (h : BookIs w bk bm n up fr L) (hne : X ≠ bk) (hA : AwayB w bk X) (o : Nat) (u : Value) : BookIs (w.setCell ⟨X, o, none⟩ u) bk bm n up fr L := by
  obtain ⟨vu, u1, u2, u3⟩ := h.c1
  obtain ⟨vf, f1, f2, f3⟩ := h.c2
  have hc : ∀ o', (w.setCell ⟨X, o, none⟩ u).cell? ⟨bk, o', none⟩ = w.cell? ⟨bk, o', none⟩ := fun o' => cell_set_other (.inl (Ne.symm hne))
  exact ⟨(hc 0).trans h.c0, ⟨vu, (hc 1).trans u1, IsRow.setOut u2 (hA vu (.inl u1)), u3⟩, ⟨vf, (hc 2).trans f1, IsRow.setOut f2 (hA vf (.inr f1)), f3⟩, (hc 3).trans h.c3, fun o' => (frozen_set _).trans (h.fz o'), h.map.setCell _ _⟩
/-- 'b.free = v', v's row new, and a write to the map: what was away is away. -/
theorem away_lay {w w1 w2 wv : World} {bk bm X B : Nat} {n : Int} {up fr rr : List Step} {L : List Slot} {v : Value} (h : BookIs w bk bm n up fr L) (hB : Below w.heap.size w w1) (hv : OwnSteps wv B v rr) (hs : w.heap.size ≤ B)
    (ht : (w1.setCell ⟨bk, 2, none⟩ v).mapTurned w2 bm) (hX : X < w.heap.size) (hA : AwayB w bk X) : AwayB w2 bk X := by
  obtain ⟨vu, u1, u2, u3⟩ := h.c1
  obtain ⟨vf, f1, f2, f3⟩ := h.c2
  have hlt := h.lt
  have k1 : (w1.setCell ⟨bk, 2, none⟩ v).cell? ⟨bk, 1, none⟩ = some vu := (cell_set_other (.inr (by decide))).trans ((hB.cell (p := ⟨bk, 1, none⟩) hlt).trans u1)
  have k2 : (w1.setCell ⟨bk, 2, none⟩ v).cell? ⟨bk, 2, none⟩ = some v := cell_set_same ((hB.cell (p := ⟨bk, 2, none⟩) hlt).trans f1)
  have hne : bk ≠ bm := h.ne
  have hbl : bk < (w1.setCell ⟨bk, 2, none⟩ v).heap.size := by
    have := hB.size
    simp [World.setCell]
    omega
  have hc : ∀ o, w2.cell? ⟨bk, o, none⟩ = (w1.setCell ⟨bk, 2, none⟩ v).cell? ⟨bk, o, none⟩ := fun o => World.cell?_of_block (w := w1.setCell ⟨bk, 2, none⟩ v) (ht.grown.block bk hbl (fun e => hne (by cases e; rfl)))
  intro x hx
  rw [hc, hc, k1, k2] at hx
  rcases hx with hx | hx
  · cases hx; exact hA _ (.inl u1)
  · cases hx; exact Apart.own hv (Nat.lt_of_lt_of_le hX hs)

/-! ### laws at the operations -/
section
variable (w : World) {ops : Array Oper} {rest : List Oper} {o : Oper} {a : Act} {Q : Exit → Act → World → Prop}

theorem wp_look_yes (hg : o.guard = none) (m x : Operand) (c : Bool) (hop : o.op = Op.lookup 72 m x c) (bm : Nat) (L : List Slot) (s : Slot) (hm : a.eval m = .map (some bm)) (hx : a.eval x = .int .i64 s.id) (h : MapIs w bm L) (hs : s ∈ L)
    (hK : wpList Try.prog ops Q rest (a.put o.dst (if c then .tuple #[slotV s, .bool true] else slotV s)) w) : wpList Try.prog ops Q (o :: rest) a w := by
  refine wpList_plain hg fun K' hK' => ?_
  have hrun := h.look_yes hs c
  generalize (if c then .tuple #[slotV s, .bool true] else slotV s) = v at hrun hK
  unfold Oper.wp
  simp [execOp, hop, hm, hx, hrun, Result.andThen]
  exact hK' _ _ hK
theorem wp_look_no (hg : o.guard = none) (m x : Operand) (c : Bool) (hop : o.op = Op.lookup 72 m x c) (bm : Nat) (L : List Slot) (id : Int) (hm : a.eval m = .map (some bm)) (hx : a.eval x = .int .i64 id) (h : MapIs w bm L) (hs : ∀ s ∈ L, s.id ≠ id)
    (hK : wpList Try.prog ops Q rest (a.put o.dst (if c then .tuple #[slotV ⟨0, 0, 0, 0⟩, .bool false] else slotV ⟨0, 0, 0, 0⟩)) w) : wpList Try.prog ops Q (o :: rest) a w := by
  refine wpList_plain hg fun K' hK' => ?_
  have hrun := h.look_no hs c
  generalize (if c then .tuple #[slotV ⟨0, 0, 0, 0⟩, .bool false] else slotV ⟨0, 0, 0, 0⟩) = v at hrun hK
  unfold Oper.wp
  simp [execOp, hop, hm, hx, hrun, Result.andThen]
  exact hK' _ _ hK
theorem wp_put (hg : o.guard = none) (m x v : Operand) (hop : o.op = Op.mapUpdate 72 m x v) (bm : Nat) (L : List Slot) (s : Slot) (hm : a.eval m = .map (some bm)) (hx : a.eval x = .int .i64 s.id) (hv : a.eval v = slotV s) (h : MapIs w bm L) (hs : ∀ x ∈ L, x.id ≠ s.id)
    (hK : ∀ w', MapIs w' bm (L ++ [s]) → w.mapTurned w' bm → wpList Try.prog ops Q rest (a.put o.dst undef) w') : wpList Try.prog ops Q (o :: rest) a w := by
  refine wpList_plain hg fun K' hK' => ?_
  obtain ⟨w', hrun, r1, r2⟩ := h.put hs
  unfold Oper.wp
  simp only [execOp, hop, hm, hx, hv]
  simp [hrun, Result.andThen]
  exact hK' _ _ (hK w' r1 r2)
theorem wp_del (hg : o.guard = none) (m x : Operand) (hop : o.op = Op.call { callee := Callee.builtin Builtin.delete, args := #[m, x], argTypes := #[72, 3] }) (bm : Nat) (L : List Slot) (id : Int) (hm : a.eval m = .map (some bm)) (hx : a.eval x = .int .i64 id) (h : MapIs w bm L)
    (hK : ∀ w', MapIs w' bm (L.filter fun x => decide (x.id ≠ id)) → w.mapTurned w' bm → wpList Try.prog ops Q rest (a.put o.dst (.tuple #[])) w') : wpList Try.prog ops Q (o :: rest) a w := by
  refine wpList_plain hg fun K' hK' => ?_
  obtain ⟨w', hrun, r1, r2⟩ := h.del id o.type
  unfold Oper.wp
  simp [execOp, hop, resolve, invoke, builtin, hm, hx, hrun, Result.andThen]
  exact hK' _ _ (hK w' r1 r2)
theorem wp_len (hg : o.guard = none) (m : Operand) (hop : o.op = Op.call { callee := Callee.builtin Builtin.len, args := #[m], argTypes := #[72] }) (bm : Nat) (L : List Slot) (hm : a.eval m = .map (some bm)) (h : MapIs w bm L)
    (hK : wpList Try.prog ops Q rest (a.put o.dst (.int .i64 L.length)) w) : wpList Try.prog ops Q (o :: rest) a w := by
  refine wpList_plain hg fun K' hK' => ?_
  unfold Oper.wp
  simp [execOp, hop, resolve, invoke, builtin, hm, h.len o.type, Result.andThen]
  exact hK' _ _ hK
theorem wp_range (hg : o.guard = none) (m : Operand) (hop : o.op = Op.range 72 m) (bm : Nat) (L : List Slot) (hm : a.eval m = .map (some bm)) (h : MapIs w bm L)
    (hK : ∀ w', RangeIs w' bm w.heap.size L L → Below w.heap.size w w' → w'.heap.size = w.heap.size + 1 → wpList Try.prog ops Q rest (a.put o.dst (.pointer (some ⟨w.heap.size, 0, none⟩))) w') : wpList Try.prog ops Q (o :: rest) a w := by
  refine wpList_plain hg fun K' hK' => ?_
  obtain ⟨w', hrun, r1, r2, r3⟩ := h.range
  unfold Oper.wp
  simp [execOp, hop, hm, hrun, Result.andThen]
  exact hK' _ _ (hK w' r1 r2 r3)
theorem wp_next (hg : o.guard = none) (it : Operand) (hop : o.op = Op.next it false) (bm r : Nat) (L left : List Slot) (hit : a.eval it = .pointer (some ⟨r, 0, none⟩)) (h : RangeIs w bm r L left)
    (hDone : left = [] → wpList Try.prog ops Q rest (a.put o.dst (.tuple #[.bool false])) w)
    (hMore : ∀ (s : Slot) (x y : List Slot) (w' : World), left = x ++ s :: y → RangeIs w' bm r L (x ++ y) → w.grownBy w' (some r) → w'.heap.size = w.heap.size → (Instr.entry (.pointer (some ⟨r, 0, none⟩))).run Try.prog w' = .ok (.tuple #[.int .i64 s.id, slotV s]) w' →
      wpList Try.prog ops Q rest (a.put o.dst (.tuple #[.bool true, .int .i64 s.id, slotV s])) w') : wpList Try.prog ops Q (o :: rest) a w := by
  refine wpList_plain hg fun K' hK' => ?_
  unfold Oper.wp
  rcases h.next o.type with ⟨h0, hrun⟩ | ⟨s, x, y, w', hl, hrun, hrg, hgr, hsz, hen⟩
  · simp [execOp, hop, hit, hrun, Result.andThen]
    exact hK' _ _ (hDone h0)
  · simp [execOp, hop, hit, hrun, Result.andThen]
    exact hK' _ _ (hMore s x y w' hl hrg hgr hsz hen)
end

end Go.Proofs.Ytjknmnmilladlaa
