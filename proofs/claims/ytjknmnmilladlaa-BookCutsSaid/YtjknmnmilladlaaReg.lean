/-
  Regions that draw their order and whose operations only read, and whose callees change nothing that was there (they may lay blocks): one walk in the order of the text serves every order.
-/
import Derived.Test.YtjknmnmilladlaaBase
import Derived.Deep.AppendLies
namespace Go.Proofs.Ytjknmnmilladlaa
open Go.RowKit

/-- A world that leaves all that lay in w as it was. -/
structure After (w : World) where
  wld : World
  prop : Below w.heap.size w wld

instance After.some (w : World) : Inhabited (After w) := ⟨⟨w, Below.refl _ _⟩⟩

theorem wp_region_quiet_after {P : Program} {id : Nat} {Q : Exit → Act → World → Prop} {a : Act} {w : World} {l : List Oper} (hm : P.follows .mixedOrders = true) (hB : Region.lexB .any l.toArray = true)
    (h : wpQuiet P l.toArray (fun w' => ∃ p : After w, w' = p.wld) (fun a' => ∀ w', (∃ p : After w, w' = p.wld) → Q .normal a' w') l a) : (Code.region id l.toArray true).wp P Q a w :=
  wp_region_quiet (C := fun w' => ∃ p : After w, w' = p.wld) hm hB ⟨⟨w.drew, (Below.refl _ _).drew⟩, rfl⟩ (by simpa using h)

theorem after_of {P : Program} {f : FuncId} {args : Array Value} {w : World} {p : After w} {v : Value}
    (h : Calls P f args p.wld fun e w' => e = .returned v ∧ Below p.wld.heap.size p.wld w') : Calls P f args p.wld fun e w'' => e = .returned v ∧ ∃ q : After w, w'' = q.wld :=
  h.mono fun _ w' ⟨he, hb⟩ => ⟨he, ⟨w', p.prop.trans (hb.mono p.prop.size)⟩, rfl⟩

theorem after_out {w w' : World} (h : ∃ p : After w, w' = p.wld) : Below w.heap.size w w' := by
  obtain ⟨p, rfl⟩ := h
  exact p.prop

theorem After.cell {w : World} {b o : Nat} {u : Option Value} (hb : b < w.heap.size) (h : w.cell? ⟨b, o, none⟩ = u) (p : After w) : p.wld.cell? ⟨b, o, none⟩ = u :=
  (p.prop.cell (p := ⟨b, o, none⟩) hb).trans h

/-- n steps A, F lie in block b from off on. -/
structure RowA (A F : Nat → Int) (b off n : Nat) (w : World) : Prop where
  lt : b < w.heap.size
  at_ : ∀ i, i < n → w.cell? ⟨b, off + i * 2, none⟩ = some (.int .i64 (A i))
  fr : ∀ i, i < n → w.cell? ⟨b, off + i * 2 + 1, none⟩ = some (.int .i64 (F i))

theorem RowA.below {A F : Nat → Int} {b off n : Nat} {w w' : World} {B : Nat} (h : RowA A F b off n w) (hB : Below B w w') (hb : b < B) : RowA A F b off n w' :=
  ⟨Nat.lt_of_lt_of_le h.lt hB.size, fun i hi => (hB.cell (p := ⟨b, _, none⟩) hb).trans (h.at_ i hi), fun i hi => (hB.cell (p := ⟨b, _, none⟩) hb).trans (h.fr i hi)⟩

/-- The cells to be appended, out of the block that was just laid. -/
theorem news_at (w : World) (H : Nat) (hH : w.heap.size = H) (cs : Array Value) (t : TypeId) : ∀ j u, cs.toList[j]? = some u → (w.alloc (.cells cs t)).cell? ((⟨H, 0, none⟩ : Addr).add j) = some u := by
  subst hH
  exact World.news_of_block (heap_alloc_new w _)

theorem news_kept {w w' : World} {row : Option Nat} (hg : w.grownBy w' row) (H : Nat) (hr : row ≠ some H) (news : List Value)
    (h : ∀ j u, news[j]? = some u → w.cell? ((⟨H, 0, none⟩ : Addr).add j) = some u) : ∀ j u, news[j]? = some u → w'.cell? ((⟨H, 0, none⟩ : Addr).add j) = some u := by
  intro j u hj
  have := h j u hj
  rw [Addr.add_lit] at this ⊢
  exact hg.cell this (Ne.symm hr)

end Go.Proofs.Ytjknmnmilladlaa
