/-
  Walk: the book's sum.
-/
import Derived.Test.YtjknmnmilladlaaW19
import Derived.Deep.RegionWith
namespace Go.Proofs.Ytjknmnmilladlaa
open Go.RowKit

/-- What is free, reckoned anew, one slot behind the other. -/
def sumF (up : List Step) (L : List Slot) : List Step := L.foldl (fun f s => addRes f s.frm s.to (-s.nodes)) up

theorem RangeIs.noCell {w : World} {bm R o : Nat} {L left : List Slot} (h : RangeIs w bm R L left) : w.cell? ⟨R, o, none⟩ = none := by
  obtain ⟨es, clock, since, seen, c0, hb, hE, hr, _⟩ := h
  simp [World.cell?, hr]
theorem RangeIs.neR {w : World} {bm R b o : Nat} {L left : List Slot} (h : RangeIs w bm R L left) {u : Value} (hc : w.cell? ⟨b, o, none⟩ = some u) : b ≠ R := by
  intro e
  subst e
  rw [h.noCell] at hc
  cases hc
theorem IsSteps.grownBut {w w' : World} {R : Nat} {v : Value} {l : List Step} (h : IsSteps w v l) (hg : w.grownBy w' (some R)) (hR : ∀ b o u, w.cell? ⟨b, o, none⟩ = some u → b ≠ R) : IsSteps w' v l := by
  obtain ⟨hl, ao, cap, rfl, h1, h2, h3⟩ := h
  refine ⟨hl, ao, cap, rfl, h1, h2, fun hn => ?_⟩
  obtain ⟨b, off, rfl, hr⟩ := h3 hn
  refine ⟨b, off, rfl, fun j u hj => ?_⟩
  have hc := hr j u hj
  exact (World.cell?_of_block (w := w) (hg.block b (World.block_lt_of_cell? w _ hc) (fun e => hR b _ u hc (by cases e; rfl)))).trans hc
theorem BookIs.iter {w w' : World} {bk bm R : Nat} {n : Int} {up fr : List Step} {L M left : List Slot} (h : BookIs w bk bm n up fr L) (hR : RangeIs w bm R M left) (hg : w.grownBy w' (some R)) : BookIs w' bk bm n up fr L := by
  have hne : bk ≠ R := hR.neR h.c0
  have hnm : bm ≠ R := by
    intro e
    obtain ⟨es, clock, since, seen, c0, hb, hE, hr, _⟩ := hR
    rw [e, hr] at hb
    cases hb
  have hc : ∀ o, w'.cell? ⟨bk, o, none⟩ = w.cell? ⟨bk, o, none⟩ := fun o => World.cell?_of_block (w := w) (hg.block bk h.lt (fun e => hne (by cases e; rfl)))
  have hf : ∀ o, w'.frozen? ⟨bk, o, none⟩ = w.frozen? ⟨bk, o, none⟩ := fun o => World.frozen?_of_block (w := w) (hg.block bk h.lt (fun e => hne (by cases e; rfl)))
  have hcell : ∀ b o u, w.cell? ⟨b, o, none⟩ = some u → b ≠ R := fun b o u hc => hR.neR hc
  obtain ⟨vu, u1, u2, u3⟩ := h.c1
  obtain ⟨vf, f1, f2, f3⟩ := h.c2
  exact ⟨(hc 0).trans h.c0, ⟨vu, (hc 1).trans u1, u2.grownBut hg hcell, u3⟩, ⟨vf, (hc 2).trans f1, f2.grownBut hg hcell, f3⟩, (hc 3).trans h.c3, fun o => (hf o).trans (h.fz o), h.map.of_block (hg.block bm h.map.lt (fun e => hnm (by cases e; rfl)))⟩
theorem Kept.grownR {bk bm R : Nat} {a w w' : World} (h : Kept bk bm a w) (hg : w.grownBy w' (some R)) (hR : a.heap.size ≤ R) : Kept bk bm a w' :=
  ⟨hg.os.trans h.os, hg.tape.trans h.tape, hg.output.trans h.output, Nat.le_trans h.size hg.size, fun k hk h1 h2 => (hg.block k (Nat.lt_of_lt_of_le hk h.size) (fun e => by cases e; omega)).trans (h.block k hk h1 h2)⟩
/-- A store into the book's block leaves the loop where it is. -/
theorem RangeIs.setCell {w : World} {bm R : Nat} {L left : List Slot} (h : RangeIs w bm R L left) (a : Addr) (u : Value) : RangeIs (w.setCell a u) bm R L left := by
  obtain ⟨es, clock, since, seen, c0, h1, h2, h3, h4⟩ := h
  refine ⟨es, clock, since, seen, c0, ?_, h2, ?_, h4⟩
  · simp only [World.setCell, Array.getElem?_modify]
    split
    · rw [h1]; rfl
    · exact h1
  · simp only [World.setCell, Array.getElem?_modify]
    split
    · rw [h3]; rfl
    · exact h3

/-- 'b.free = v', v's row new: what was away is away. -/
theorem AwayB.set2 {w w1 : World} {bk X : Nat} (hA : AwayB w bk X) (hB : Below w.heap.size w w1) (hlt : bk < w.heap.size) {u v : Value} (c2 : w1.cell? ⟨bk, 2, none⟩ = some u) (hv : Apart X v) : AwayB (w1.setCell ⟨bk, 2, none⟩ v) bk X := by
  intro x hx
  rcases hx with hx | hx
  · rw [cell_set_other (.inr (by decide)), hB.cell (p := ⟨bk, 1, none⟩) hlt] at hx
    exact hA x (.inl hx)
  · rw [cell_set_same c2] at hx
    cases hx
    exact hv
theorem AwayB.grownR {w w' : World} {bk X R : Nat} (hA : AwayB w bk X) (hlt : bk < w.heap.size) (hne : bk ≠ R) (hg : w.grownBy w' (some R)) : AwayB w' bk X := by
  have hc : ∀ o, w'.cell? ⟨bk, o, none⟩ = w.cell? ⟨bk, o, none⟩ := fun o => World.cell?_of_block (w := w) (hg.block bk hlt (fun e => hne (by cases e; rfl)))
  intro x hx
  rw [hc, hc] at hx
  exact hA x hx

set_option maxHeartbeats 8000000 in
set_option maxRecDepth 100000 in
theorem sumAny {w : World} {bk bm : Nat} {n : Int} {up fr : List Step} {L : List Slot} (h : BookIs w bk bm n up fr L) (hup : up.length ≤ 40000) (hk : ∀ s ∈ L, 1 ≤ s.nodes ∧ s.nodes ≤ 10000) :
    Calls Try.prog 47 #[.pointer (some ⟨bk, 0, none⟩)] w fun e w' => e = .returned (.tuple #[]) ∧ (∃ dn, dn.Perm L ∧ BookIs w' bk bm n up (sumF up dn) L) ∧ Kept bk bm w w' ∧ ∀ X, X < w.heap.size → AwayB w bk X → AwayB w' bk X := by
  obtain ⟨vu, c1, u2, u3⟩ := h.c1
  obtain ⟨vf, c2, f2, f3⟩ := h.c2
  have hlt := h.lt
  have HC := Lib.hid (cloneAny u2 hup)
  have HH := Lib.hid h
  have HK := Lib.hid hk
  clear h u2 u3 f2 f3 hk
  go_enter Try.func47, Try.ntmps47
  go_wp2_with fail
  refine (HC.out).mono ?_
  rintro e w1 ⟨⟨v, rfl, hv⟩, hb1⟩
  obtain ⟨ao, cp, rfl, _, _⟩ := IsRow.shape hv.is
  have k2 := cell_thru hb1 c2
  have H1 := HH.out.below hb1
  have g2 := H1.fz 2
  have A1 : Apart bk (.slice ao up.length cp) := Apart.own hv hlt
  have HK2 := Lib.hid (H1.setFree hv.is A1)
  have k3 := HK2.out.c3
  have hsz : w1.heap.size ≤ (w1.setCell ⟨bk, 2, none⟩ (.slice ao up.length cp)).heap.size := by simp [World.setCell]
  have HKE := Lib.hid (((Kept.of_below (bk := bk) (bm := bm) hb1)).set 2 (.slice ao up.length cp))
  have hs1 : w.heap.size ≤ w1.heap.size := hb1.size
  have HAW := Lib.hid (show ∀ X, X < w.heap.size → AwayB w bk X → AwayB (w1.setCell ⟨bk, 2, none⟩ (.slice ao up.length cp)) bk X from fun X hX hA => hA.set2 hb1 hlt k2 (Apart.own hv hX))
  clear hv hb1 H1 A1 HC
  obtain ⟨R, hR⟩ : ∃ R, R = (w1.setCell ⟨bk, 2, none⟩ (.slice ao up.length cp)).heap.size := ⟨_, rfl⟩
  have hlR : w.heap.size ≤ R := by rw [hR]; omega
  have HR := Lib.hid hR
  clear hR hsz
  go_wp2_with (at_range; refine wp_range _ rfl _ rfl bm L rfl HK2.out.map ?_; intro w0 hr0 hb0 hs0)
  go_frame
  rw [← HR.out] at hr0
  rw [← HR.out]
  have HBK0 := Lib.hid (HK2.out.below hb0)
  have HKE0 := Lib.hid (HKE.out.trans (Kept.of_below hb0))
  have HAW0 := Lib.hid (show ∀ X, X < w.heap.size → AwayB w bk X → AwayB w0 bk X from fun X hX hA => (HAW.out X hX hA).below hb0 HK2.out.lt)
  have HR0 := Lib.hid hr0
  clear hr0 hb0 hs0 k2 g2 k3
  go_loopw [3] (fun _ wr => ∃ dn left, RangeIs wr bm R L left ∧ (dn ++ left).Perm L ∧ BookIs wr bk bm n up (sumF up dn) L ∧ Kept bk bm w wr ∧ ∀ X, X < w.heap.size → AwayB w bk X → AwayB wr bk X) (fun _ wr => wr.rangeLeft bm R)
  case atStart => exact ⟨[], L, HR0.out, List.Perm.refl _, HBK0.out, HKE0.out, HAW0.out⟩
  case round =>
    obtain ⟨dn, left, hRg, hP, hBk, hKp, hAw⟩ := hrel
    have HAw := Lib.hid hAw
    clear hAw HAW HAW0
    have HP := Lib.hid hP
    have HBk := Lib.hid hBk
    have HKp := Lib.hid hKp
    clear hP hBk hKp HBK0 HKE0 HR0 HK2 HKE
    go_wp2_with (at_next; refine wp_next _ rfl _ rfl bm R L left rfl hRg ?_ ?_)
    · intro hl
      subst hl
      have hPL : dn.Perm L := by simpa using HP.out
      have HPL := Lib.hid hPL
      clear hPL hRg
      go_wp2_with fail
      go_end0
      exact ⟨rfl, ⟨dn, HPL.out, HBk.out⟩, HKp.out, HAw.out⟩
    · intro s x y w2 hl hR1 hg1 hs1 hen
      subst hl
      clear hs1
      have hsL : s ∈ L := HP.out.subset (by simp)
      have hq := HK.out s hsL
      have hB2 := HBk.out.iter hRg hg1
      have hlt2 := hB2.lt
      have hne : w2.heap.size ≠ bk := by omega
      have hltm : bm < w2.heap.size := hB2.map.lt
      have hlr : R < w2.heap.size := hR1.lt
      have hsn : sumF up (dn ++ [s]) = addRes (sumF up dn) s.frm s.to (-s.nodes) := by simp [sumF, List.foldl_append]
      obtain ⟨id, f0, t0, q⟩ := s
      unfold slotV at hen
      simp only at hen hq hsn
      have hneg := neg_wrap (k := q) ⟨by omega, by omega⟩
      have HM := Lib.hid (show World.rangeLeft _ bm R = (x ++ ⟨id, f0, t0, q⟩ :: y).length from hRg.left_eq)
      have hmeas : (x ++ y).length < (x ++ (⟨id, f0, t0, q⟩ : Slot) :: y).length := by simp
      have HME := Lib.hid hmeas
      have HP1 := Lib.hid (perm_step HP.out)
      have HKp2 := Lib.hid (HKp.out.grownR hg1 hlR)
      have HAw2 := Lib.hid (show ∀ X, X < w.heap.size → AwayB w bk X → AwayB w2 bk X from fun X hX hA => (HAw.out X hX hA).grownR HBk.out.lt (hRg.neR HBk.out.c0) hg1)
      obtain ⟨vf2, c2, f2, f3⟩ := hB2.c2
      have HF := Lib.hid f2
      have HB2 := Lib.hid hB2
      have HR1 := Lib.hid hR1
      generalize hrr : addRes (sumF up dn) f0 t0 (-q) = rr at *
      have HRR := Lib.hid hrr
      have HSN := Lib.hid hsn
      have d0 : (w2.alloc (.cells #[.int .i64 id, .int .i64 f0, .int .i64 t0, .int .i64 q] 29)).drew.cell? ⟨bk, 2, none⟩ = some vf2 := cell_old _ c2
      have d1 : (w2.alloc (.cells #[.int .i64 id, .int .i64 f0, .int .i64 t0, .int .i64 q] 29)).drew.cell? ⟨w2.heap.size, 1, none⟩ = some (.int .i64 f0) := cell_new w2 _ 29 1 rfl
      have d2 : (w2.alloc (.cells #[.int .i64 id, .int .i64 f0, .int .i64 t0, .int .i64 q] 29)).drew.cell? ⟨w2.heap.size, 2, none⟩ = some (.int .i64 t0) := cell_new w2 _ 29 2 rfl
      have d3 : (w2.alloc (.cells #[.int .i64 id, .int .i64 f0, .int .i64 t0, .int .i64 q] 29)).drew.cell? ⟨w2.heap.size, 3, none⟩ = some (.int .i64 q) := cell_new w2 _ 29 3 rfl
      have HBW := Lib.hid (((Below.refl _ _).alloc (Nat.le_refl _) _).drew : Below w2.heap.size w2 (w2.alloc (.cells #[.int .i64 id, .int .i64 f0, .int .i64 t0, .int .i64 q] 29)).drew)
      clear hsL hq hB2 hRg hR1 hg1 hmeas f2 f3 hrr hsn c2
      go_wp2_with fail
      go_region_with ((go_at_call 44; refine (addEq ((HF.out).below HBW.out) rfl HRR.out).mono ?_; rintro e w3 ⟨⟨v3, rfl, hv⟩, hb1⟩; obtain ⟨ao3, cp3, rfl, _, _⟩ := IsRow.shape hv.is; have B1 : Below w2.heap.size w2 w3 := HBW.out.trans (hb1.mono HBW.out.size); have k1 := cell_thru hb1 d0; have g2 := (HB2.out.below B1).fz 2; have HV := Lib.hid hv; clear hv; have HB1 := Lib.hid B1; clear B1; clear hb1))
      all_goals (
        go_roundw
        case rel =>
          have A3 : Apart bk (.slice ao3 rr.length cp3) := Apart.own HV.out (Nat.lt_of_lt_of_le hlt2 HBW.out.size)
          (repeat apply Exists.intro)
          exact ⟨⟨dn ++ [⟨id, f0, t0, q⟩], x ++ y, (HR1.out.below HB1.out hltm hlr).setCell _ _, HP1.out, (by rw [HSN.out]; exact (HB2.out.below HB1.out).setFree HV.out.is A3), (HKp2.out.trans (Kept.of_below HB1.out)).set 2 _, fun X hX hA => (HAw2.out X hX hA).set2 HB1.out hlt2 k1 (Apart.own HV.out (Nat.lt_of_lt_of_le hX (Nat.le_trans HKp2.out.size HBW.out.size)))⟩, rfl⟩
        case measure =>
          rw [((HR1.out.below HB1.out hltm hlr).setCell _ _).left_eq, HM.out]
          exact HME.out)

end Go.Proofs.Ytjknmnmilladlaa
