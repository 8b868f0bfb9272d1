/-
  The laws' arguments: slices of what is done, of numbers; a slot by value; how they read, and that they read again behind a call that leaves them.
-/
import Derived.Test.YtjknmnmilladlaaW30
import Derived.Deep.Slices
import Derived.ChangeSlices
import Derived.WideKeyArgs
import Derived.ProofKit
import Derived.OpenShut
namespace Go.Proofs.Ytjknmnmilladlaa
open Go.RowKit Go.WideShapes Go.ChangeShapes

def doCells (d : Do) : List Value := [.int .i64 d.kind, .int .i64 d.s.id, .int .i64 d.s.frm, .int .i64 d.s.to, .int .i64 d.s.nodes]
def flatD (l : List Do) : List Value := l.flatMap doCells
theorem length_flatD (l : List Do) : (flatD l).length = l.length * 5 := by
  induction l with
  | nil => rfl
  | cons a l ih => simp only [flatD, List.flatMap_cons, List.length_append] at *; rw [ih]; simp [doCells]; omega
theorem flatD_at (l : List Do) (i j : Nat) (h : i < l.length) (hj : j < 5) : (flatD l)[i * 5 + j]? = (doCells (l.getD i default))[j]? := by
  induction l generalizing i with
  | nil => simp at h
  | cons a l ih =>
    cases i with
    | zero => simp only [flatD, List.flatMap_cons]; rw [List.getElem?_append_left (by simp [doCells]; omega)]; simp
    | succ i =>
      have := ih i (by simpa using h)
      simp only [flatD, List.flatMap_cons] at *
      rw [List.getElem?_append_right (by simp [doCells]; omega)]
      simp only [doCells, List.length_cons, List.length_nil] at *
      rw [show (i + 1) * 5 + j - (0 + 1 + 1 + 1 + 1 + 1) = i * 5 + j by omega, this]
      simp

def IsDos (w : World) (v : Value) (l : List Do) : Prop := IsRow w 5 v l.length (flatD l)
theorem IsDos.below {w w' : World} {v : Value} {l : List Do} (h : IsDos w v l) (hB : Below w.heap.size w w') : IsDos w' v l := IsRow.below (by decide) h hB

theorem doAtV {w : World} {v : Value} {l : List Do} (h : IsDos w v l) (hn : 0 < l.length) :
    ∃ b off cap, v = .slice (some ⟨b, off, none⟩) l.length cap ∧ l.length ≤ cap ∧ cap ≤ 9223372036854775807 ∧ b < w.heap.size ∧ ∀ i, i < l.length → ∀ j u, (doCells (l.getD i default))[j]? = some u → w.cell? ⟨b, off + i * 5 + j, none⟩ = some u := by
  obtain ⟨hl, ao, cap, rfl, h1, h2, h3⟩ := h
  obtain ⟨b, off, rfl, hr⟩ := h3 hn
  unfold maxLen at h2
  refine ⟨b, off, cap, rfl, h1, by omega, hr.lt ?_, fun i hi j u hu => ?_⟩
  · intro e; rw [e] at hl; simp at hl; omega
  · have hj : j < 5 := by
      have := (List.getElem?_eq_some_iff.1 hu).1
      simpa [doCells] using this
    have := hr (i * 5 + j) u (by rw [flatD_at l i j hi hj]; exact hu)
    rw [show off + i * 5 + j = off + (i * 5 + j) by omega]
    exact this

theorem cells46 : Try.prog.cellsOf 46 = 5 := by kernel_rfl
theorem cells29 : Try.prog.cellsOf 29 = 4 := by kernel_rfl
theorem cells3 : Try.prog.cellsOf 3 = 1 := by kernel_rfl
theorem cells38 : Try.prog.cellsOf 38 = 2 := by kernel_rfl

set_option maxRecDepth 100000
section
variable {H : Type} {enc : TypeId × Value → H} {w : World}

theorem open_slotC {fuel : Nat} {cs : List Value} {x : DataW H × List MemPlace} {base : Nat} {spare : Nat → Bool} {held : Bool} (h : DataW.trod enc Try.prog w base spare held fuel 29 cs = some x) : ∃ s : Slot, cs = slotCells s := by
  obtain ⟨xs, n, _, _, hlen, hxl, hf⟩ := DataW.trod_struct Try.underlying29 h
  rw [cells29] at hlen
  match cs, hlen with
  | [c0, c1, c2, c3], _ =>
    have one : ∀ (i : Nat) (f : Field) (c : Value), f.type = 3 → (#[({ name := "ID", type := 3, offset := 0, embedded := false, tag := "", pkgPath := "", byteOffset := 0 } : Field), { name := "From", type := 3, offset := 1, embedded := false, tag := "", pkgPath := "", byteOffset := 8 }, { name := "To", type := 3, offset := 2, embedded := false, tag := "", pkgPath := "", byteOffset := 16 }, { name := "Nodes", type := 3, offset := 3, embedded := false, tag := "", pkgPath := "", byteOffset := 24 }])[i]? = some f →
        (([c0, c1, c2, c3].drop f.offset).take 1 = [c]) → ∃ z : Int, c = .int .i64 z := by
      intro i f c ht hfi hc
      have h1 := hf i f hfi
      rw [ht, cells3, hc] at h1
      have hi : i < xs.length := by
        rw [hxl]
        exact (Array.getElem?_eq_some_iff.1 hfi).1
      rw [List.getElem?_eq_getElem hi] at h1
      obtain ⟨z, hz, _⟩ := DataW.trod_int Try.underlying3 h1
      exact ⟨z, by simpa using hz⟩
    obtain ⟨z0, rfl⟩ := one 0 _ c0 rfl rfl rfl
    obtain ⟨z1, rfl⟩ := one 1 _ c1 rfl rfl rfl
    obtain ⟨z2, rfl⟩ := one 2 _ c2 rfl rfl rfl
    obtain ⟨z3, rfl⟩ := one 3 _ c3 rfl rfl rfl
    exact ⟨⟨z0, z1, z2, z3⟩, rfl⟩

theorem open_doC {fuel : Nat} {cs : List Value} {x : DataW H × List MemPlace} {base : Nat} {spare : Nat → Bool} {held : Bool} (h : DataW.trod enc Try.prog w base spare held fuel 46 cs = some x) : ∃ d : Do, cs = doCells d := by
  obtain ⟨xs, n, _, _, hlen, hxl, hf⟩ := DataW.trod_struct Try.underlying46 h
  rw [cells46] at hlen
  match cs, hlen with
  | [c0, c1, c2, c3, c4], _ =>
    have hx : xs.length = 2 := hxl
    have h0 : DataW.trod enc Try.prog w base spare held n 3 (List.take (Try.prog.cellsOf 3) (List.drop 0 [c0, c1, c2, c3, c4])) = xs[0]? := hf 0 _ rfl
    have h1 : DataW.trod enc Try.prog w base spare held n 29 (List.take (Try.prog.cellsOf 29) (List.drop 1 [c0, c1, c2, c3, c4])) = xs[1]? := hf 1 _ rfl
    rw [cells3, List.getElem?_eq_getElem (by omega)] at h0
    rw [cells29, List.getElem?_eq_getElem (by omega)] at h1
    obtain ⟨z, hz, _⟩ := DataW.trod_int Try.underlying3 h0
    obtain ⟨s, hs⟩ := open_slotC h1
    simp [slotCells] at hz hs
    refine ⟨⟨z, s⟩, ?_⟩
    simp [doCells, hz, hs]

theorem open_dos {v : Value} {d : DataW H} {p : List MemPlace} {r : Reach} {b0 : Nat} (hv : Value.okWide Try.prog w r b0 41 v) (h : DataW.Trod enc Try.prog w 0 (fun _ => true) true 41 v d p) : ∃ l : List Do, IsDos w v l := by
  obtain ⟨a0, len, cap, rfl⟩ := okWide_slice Try.underlying41 hv
  obtain ⟨fuel, hf⟩ := h
  rcases Go.Deep.open_slice Try.underlying41 hf with ⟨hcs, _⟩ | ⟨a, len', cap', m, n, D, Pl, hcs, _, hl, hm, hmm, _, hi⟩
  · simp [Value.cells] at hcs
    obtain ⟨rfl, rfl, rfl⟩ := hcs
    exact ⟨[], rfl, none, 0, rfl, Nat.le_refl _, Nat.zero_le _, fun h => absurd h (Nat.lt_irrefl _)⟩
  · simp [Value.cells] at hcs
    obtain ⟨rfl, rfl, rfl⟩ := hcs
    obtain ⟨blk, off, pth⟩ := a
    rw [cells46] at hi
    have hall : ∀ i, ∃ d : Do, i < len → ∀ j u, (doCells d)[j]? = some u → w.cell? ((⟨blk, off, pth⟩ : Addr).add (i * 5 + j)) = some u := by
      intro i
      by_cases hil : i < len
      · obtain ⟨cs', hc, ht⟩ := hi i (by rw [hmm]; simp; omega)
        obtain ⟨d, rfl⟩ := open_doC ht
        refine ⟨d, fun _ j u hu => ?_⟩
        obtain ⟨_, _, hat⟩ := World.cells?_some hc
        have hj : j < 5 := by
          have := (List.getElem?_eq_some_iff.1 hu).1
          simpa [doCells] using this
        have := hat j hj
        rw [← Go.Deep.add_add]
        rw [this]
        exact hu
      · exact ⟨default, fun h => absurd h hil⟩
    obtain ⟨F, hF⟩ := Classical.axiomOfChoice hall
    refine ⟨(List.range len).map F, ?_⟩
    have hll : ((List.range len).map F).length = len := by simp
    refine ⟨length_flatD _, some ⟨blk, off, pth⟩, cap, by rw [hll], by omega, hm, fun hn => ?_⟩
    have hn' : 0 < len := by omega
    have hp : pth = none := by
      simpa [Addr.add] using World.cell?_spot (hF 0 hn' 0 _ rfl)
    subst hp
    refine ⟨blk, off, rfl, fun j u hj => ?_⟩
    have hjl : j < len * 5 := by
      have := (List.getElem?_eq_some_iff.1 hj).1
      rw [length_flatD, hll] at this
      exact this
    have hd : j = j / 5 * 5 + j % 5 := by omega
    rw [hd, flatD_at _ _ _ (by rw [hll]; omega) (by omega)] at hj
    have hg : ((List.range len).map F).getD (j / 5) default = F (j / 5) := by
      have : j / 5 < len := by omega
      simp [List.getD, this]
    rw [hg] at hj
    have := hF (j / 5) (by omega) _ _ hj
    rw [Addr.add_lit, ← hd] at this
    exact this
theorem open_intsA {v : Value} {d : DataW H} {p : List MemPlace} {r : Reach} {b0 : Nat} (hv : Value.okWide Try.prog w r b0 42 v) (h : DataW.Trod enc Try.prog w 0 (fun _ => true) true 42 v d p) : ∃ l : List Int, IsInts w v l := by
  obtain ⟨a0, len, cap, rfl⟩ := okWide_slice Try.underlying42 hv
  obtain ⟨fuel, hf⟩ := h
  rcases open_ints Try.underlying42 Try.underlying3 cells3 hf with ⟨hcs, _⟩ | ⟨a, len', cap', zs, hcs, _, hl, hm, hz, _, hcell, _⟩
  · simp [Value.cells] at hcs
    obtain ⟨rfl, rfl, rfl⟩ := hcs
    exact ⟨[], isInts_nil w⟩
  · simp [Value.cells] at hcs
    obtain ⟨rfl, rfl, rfl⟩ := hcs
    have hz' : zs.length = cap := by simpa using hz
    have hll : (zs.take len).length = len := by simp; omega
    by_cases hp : 0 < zs.length
    · obtain ⟨b, off, rfl, hc⟩ := ints_at hcell hp
      refine ⟨zs.take len, length_flatI _, some ⟨b, off, none⟩, cap, by rw [hll], by omega, hm, fun _ => ⟨b, off, rfl, fun j u hj => ?_⟩⟩
      have hjl : j < len := by
        have := (List.getElem?_eq_some_iff.1 hj).1
        rw [length_flatI] at this
        omega
      rw [flatI_at _ _ (by omega)] at hj
      cases hj
      have hg : inv (zs.take len) j = zs.getD j 0 := by
        unfold inv
        simp [hjl]
      rw [hg]
      exact hc j (by omega)
    · refine ⟨[], length_flatI _, some a, cap, ?_, Nat.zero_le _, hm, fun h => absurd h (Nat.lt_irrefl _)⟩
      have : len = 0 := by omega
      rw [this]
      rfl

theorem open_slotV {v : Value} {d : DataW H} {p : List MemPlace} {r : Reach} {b0 : Nat} (hv : Value.okWide Try.prog w r b0 29 v) (h : DataW.Trod enc Try.prog w 0 (fun _ => true) true 29 v d p) : ∃ s : Slot, v = slotV s := by
  obtain ⟨cs, rfl, hsz⟩ := okWide_struct Try.underlying29 hv
  obtain ⟨fuel, hf⟩ := h
  obtain ⟨s, hs⟩ := open_slotC hf
  refine ⟨s, ?_⟩
  unfold slotV
  congr 1
  apply Array.toList_inj.1
  simpa [Value.cells, slotCells] using hs
end

end Go.Proofs.Ytjknmnmilladlaa
