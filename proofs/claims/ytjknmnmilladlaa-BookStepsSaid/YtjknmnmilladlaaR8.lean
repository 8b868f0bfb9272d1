/-
  Walk of the reference (layer 11): Steps.
-/
import Derived.Test.YtjknmnmilladlaaR7
namespace Go.Proofs.Ytjknmnmilladlaa
open Go.RowKit

def freeAt (up : List Step) (S : List Slot) (t : Int) : Step := ⟨t, atOf up t - loadOf S t⟩

theorem freeAt_rises {up : List Step} {S : List Slot} {ts : List Int} (h : ts.Pairwise (· < ·)) : ∀ i j, i < j → j < (ts.map (freeAt up S)).length → atv (ts.map (freeAt up S)) i < atv (ts.map (freeAt up S)) j := by
  refine (rises_iff _).1 ?_
  unfold Rises
  rw [List.pairwise_map]
  exact h

theorem OwnSteps.wider2 {w : World} {B C : Nat} {v : Value} {l : List Step} (h : OwnSteps w C v l) (hB : B ≤ C) : OwnSteps w B v l := by
  refine ⟨h.1, ?_⟩
  rcases h.2 with h' | ⟨g, cap, cur, hv, hb, r⟩
  · exact .inl h'
  · exact .inr ⟨g, cap, cur, hv, by omega, r⟩

theorem call_below {P : Program} {f : FuncId} {args : Array Value} {w0 w : World} {v : Value} (hs : w0.heap.size ≤ w.heap.size) (h : Calls P f args w fun e w' => e = .returned v ∧ Below w.heap.size w w') : Calls P f args w fun e w' => e = .returned v ∧ Below w0.heap.size w w' :=
  h.mono fun _ _ ⟨a, b⟩ => ⟨a, b.mono hs⟩

set_option maxHeartbeats 8000000 in
set_option maxRecDepth 100000 in
theorem refSteps {w : World} {vu vs : Value} {n : Int} {up : List Step} {S : List Slot} (hu : IsSteps w vu up) (hs : IsSlots w vs S) (hf : Fine n up S) :
    Calls Try.prog 56 #[.agg #[.int .i64 n, vu, vs]] w fun e w' => (∃ (u : Value) (ts : List Int), e = .returned u ∧ OwnSteps w' w.heap.size u (tidy (ts.map (freeAt up S))) ∧ ts.Pairwise (· < ·) ∧ (∀ t, t ∈ ts ↔ t = 0 ∨ t ∈ stepT up ++ slotT S) ∧ ts.length ≤ 38004) ∧ Below w.heap.size w w' := by
  have hbx := RBox.new (n := n) hu hs
  have hBB := (Below.refl w.heap.size w).alloc (Nat.le_refl _) (.cells #[.int .i64 n, vu, vs] 59)
  have hsz : (w.alloc (.cells #[.int .i64 n, vu, vs] 59)).heap.size = w.heap.size + 1 := by simp
  have HT := Lib.hid (refTimesB n hbx.u hf.u.pos hf.u.len hbx.s hf.l)
  have k0 := hbx.c0
  have k1 := hbx.c1
  have k2 := hbx.c2
  have HBX := Lib.hid hbx
  have HBB := Lib.hid hBB
  have HF := Lib.hid hf
  have HSZ := Lib.hid hsz
  obtain ⟨au, cu, rfl, _, _⟩ := hu.shape
  obtain ⟨az, cz, rfl, _, _⟩ := hs.shape
  obtain ⟨i0, hi, hz0, hz1, hz2⟩ := info_parts Try.info38
  clear hu hs hf hbx hBB hsz
  go_enter Try.func56, Try.ntmps56
  go_wp2_with fail
  refine (HT.out).mono ?_
  rintro e w1 ⟨⟨v3, ts, rfl, ho3, hri, hmem, hlen⟩, hb1⟩
  have HRI := Lib.hid hri
  have HX1 := Lib.hid (HBX.out.below hb1)
  have HB1 := Lib.hid (HBB.out.trans (hb1.mono (by rw [HSZ.out]; exact Nat.le_succ _)))
  have HTM := Lib.hid hmem
  have hpos : 0 < ts.length := List.length_pos_of_mem ((hmem 0).2 (Or.inl rfl))
  obtain ⟨b9, o9, c9, rfl, q1, q2, q3, C9⟩ := intAtV ho3.is hpos
  obtain ⟨M, hM⟩ : ∃ M, M = ts.length := ⟨_, rfl⟩
  rw [← hM] at q1 C9 hpos hlen
  rw [← hM]
  have HC9 := Lib.hid C9
  have HM := Lib.hid hM
  have HLEN := Lib.hid hlen
  obtain ⟨B, hB⟩ : ∃ B, B = w.heap.size := ⟨_, rfl⟩
  rw [← hB] at HX1 ⊢
  have HBE := Lib.hid hB
  clear ho3 hb1 hmem C9 hM k0 k1 k2 hB HT HBX HBB hri
  go_wp2_with fail
  go_loopw [3, 5] (fun v3 v5 wr => ∃ q : Nat, q ≤ M ∧ v5 = .int .i64 q ∧ Below w1.heap.size w1 wr ∧ OwnSteps wr w1.heap.size v3 ((ts.map (freeAt up S)).take q)) (fun _ v5 _ => M - (intOf v5).toNat)
  case atStart => exact ⟨0, by omega, rfl, Below.refl _ _, World.ownsRow_nil _ _ _ _⟩
  case round =>
    obtain ⟨q, hq, rfl, hb, ho⟩ := hrel
    have HB := Lib.hid hb
    have hX := HX1.out.below hb
    by_cases hqM : q < M
    · obtain ⟨t, et, gt⟩ := HC9.out q hqM
      have hqq : (q : Int) < M := by omega
      have hqT : q < ts.length := by rw [← HM.out]; exact hqM
      have hte : ts[q] = t := by
        rw [List.getD_eq_getElem?_getD, List.getElem?_eq_getElem hqT] at et
        exact et
      have htm : t ∈ ts := by rw [← hte]; exact List.getElem_mem _
      have hit := HF.out.times t ((HTM.out t).1 htm)
      have hsn : (ts.map (freeAt up S)).take (q + 1) = (ts.map (freeAt up S)).take q ++ [⟨t, atOf up t - loadOf S t⟩] := by
        rw [List.take_succ_eq_append_getElem (by simpa using hqT)]
        simp [freeAt, hte]
      have hlq : ((ts.map (freeAt up S)).take q).length = q := by simp; omega
      have hab := atOf_range HF.out.u t
      have hlb := loadOf_bound HF.out.nodes t
      have hSl := HF.out.l
      have hlb2 : 0 ≤ loadOf S t ∧ loadOf S t ≤ 90000000 := ⟨hlb.1, by have := hlb.2; omega⟩
      have k0 := hX.c0
      have k1 := hX.c1
      have k2 := hX.c2
      have k3 := (hb.cell (p := ⟨b9, o9 + q, none⟩) q3).trans gt
      have HTK := Lib.hid (show ∀ w2, Below wr.heap.size wr w2 → _ from fun w2 h2 => call_below (w0 := wr) h2.size (refTaken (w := w2) (vu := .slice au up.length cu) n (hX.s.below h2) HF.out.l HF.out.nodes t))
      have HAT := Lib.hid (show ∀ w2, Below wr.heap.size wr w2 → _ from fun w2 h2 => call_below (w0 := wr) h2.size (refAt (w := w2) (hX.u.below h2) HF.out.u t hit))
      generalize (ts.map (freeAt up S)).take q = lst at *
      generalize hld : loadOf S t = ld at *
      generalize hat : atOf up t = at1 at *
      have hwr : IntKind.i64.wrap (at1 - ld) = at1 - ld := small_wrap (by omega) (by omega)
      have HSN := Lib.hid hsn
      unfold OwnSteps at ho
      rw [hlq] at ho
      have HOW := Lib.hid ho
      have hB9 : b9 < wr.heap.size := Nat.lt_of_lt_of_le q3 hb.size
      have hBB := hX.lt
      have hsr := hb.size
      have hlt3 : ∀ g, u3.ownBlock = some g → w1.heap.size ≤ g := fun g hg => ((World.ownsRow.lt HOW.out) g hg).1
      have hBw1 : B < w1.heap.size := HX1.out.lt
      have hne9 : u3.ownBlock ≠ some b9 := fun e => by have := hlt3 _ e; omega
      have hneB : u3.ownBlock ≠ some B := fun e => by have := hlt3 _ e; omega
      clear hb hX et gt htm hit hte hsn hld hat hlb hSl ho hlt3
      go_wp2_with fail
      go_region_held3 (fun w' => w'.cell? ⟨B, 0, none⟩ = some (.int .i64 n) ∧ w'.cell? ⟨B, 1, none⟩ = some (.slice au up.length cu) ∧ w'.cell? ⟨B, 2, none⟩ = some (.slice az S.length cz) ∧ w'.cell? ⟨b9, o9 + q, none⟩ = some (.int .i64 t)) (first | go_keep | exact ⟨m0, m1, m2, m3⟩ | exact ⟨n0, n1, n2, n3⟩ | (go_split_ands; refine ⟨?_, ?_, ?_, ?_⟩ <;> (rw [hgrow.cell_far _ (by simp; omega) (by first | exact (Ne.symm hneB) | exact (Ne.symm hne9))]; assumption))) ((first | (go_at_call 67; refine (HAT.out _ (by exact (Below.refl _ _).drew)).mono ?_; rintro e w5 ⟨rfl, hb5⟩; have m0 := (hb5.cell (p := ⟨B, 0, none⟩) hBB).trans k0; have m1 := (hb5.cell (p := ⟨B, 1, none⟩) hBB).trans k1; have m2 := (hb5.cell (p := ⟨B, 2, none⟩) hBB).trans k2; have m3 := (hb5.cell (p := ⟨b9, o9 + q, none⟩) hB9).trans k3; have HB5 := Lib.hid ((Below.refl wr.heap.size wr).drew.trans hb5); clear hb5) | (go_at_call 71; refine (HTK.out _ (by exact HB5.out)).mono ?_; rintro e w6 ⟨rfl, hb6⟩; have n0 := (hb6.cell (p := ⟨B, 0, none⟩) hBB).trans m0; have n1 := (hb6.cell (p := ⟨B, 1, none⟩) hBB).trans m1; have n2 := (hb6.cell (p := ⟨B, 2, none⟩) hBB).trans m2; have n3 := (hb6.cell (p := ⟨b9, o9 + q, none⟩) hB9).trans m3; have HB6 := Lib.hid (HB5.out.trans hb6); have hs6 : wr.heap.size ≤ w6.heap.size := HB6.out.size; clear hb6) | (refine step_append_lies _ (by rfl) _ _ _ (by rfl) w1.heap.size 38 i0 _ 2 16 Try.underlying33 hi hz0 hz1 hz2 rfl (by omega) u3 _ _ (by rfl) ((owns_below HOW.out HB6.out).alloc _) ⟨w6.heap.size, 0, none⟩ 1 1 [.int .i64 t, .int .i64 (at1 - ld)] (by rfl) (by rfl) (World.news_of_block (cs := #[.int .i64 t, .int .i64 (at1 - ld)]) (t := 38) (fr := (0, 0)) (heap_alloc_new w6 _)) (by simp [Value.oneCell']) (by omega) (by unfold maxLen; omega) (by omega) (by simp; omega) (w6.heap.size + 1) (by simp) ?_; intro gg cap1 w7 hown1 hgrow hat hlt2)))
      have HO8 := Lib.hid hown1
      have HG8 := Lib.hid hgrow
      clear hown1 hgrow hat hlt2 m0 m1 m2 m3 n0 n1 n2 n3
      go_wp2_with fail
      go_roundw
      case rel =>
        refine ⟨q + 1, by omega, by go_num, HB.out.trans (((HB6.out.mono hsr).alloc (by omega) _).grown HG8.out (by simp; omega) (fun g hg => ((World.ownsRow.lt HOW.out) g hg).1)), ?_⟩
        rw [HSN.out]
        exact own_step1 HO8.out
      case measure => simp [intOf]; omega
    · obtain rfl : q = M := by omega
      have hd : decide ((q : Int) < q) = false := by simp
      have hall : (ts.map (freeAt up S)).take q = ts.map (freeAt up S) := by rw [List.take_of_length_le]; simp [← HM.out]
      rw [hall] at ho
      have hl := HLEN.out
      have HT := Lib.hid (refTidy ho.is (by simpa [← HM.out] using hpos) (by simp [← HM.out]; omega) (freeAt_rises HRI.out))
      generalize hfl : ts.map (freeAt up S) = fl at *
      have HFL := Lib.hid hfl
      obtain ⟨a3, c3, rfl, _, _⟩ := IsRow.shape ho.is
      clear hb ho hall hX hfl
      go_wp2_with fail
      refine (HT.out).mono ?_
      rintro e w7 ⟨⟨u, rfl, hou⟩, hb7⟩
      have HOU := Lib.hid hou
      have HB7 := Lib.hid hb7
      clear hou hb7
      go_wp2_with fail
      go_ret
      have hwB : w.heap.size ≤ w1.heap.size := HB1.out.size
      refine ⟨⟨_, ts, rfl, ?_, HRI.out, HTM.out, by rw [← HM.out]; exact hl⟩, ?_⟩
      · rw [HFL.out]
        exact HOU.out.wider2 (by have := HB.out.size; omega)
      · exact HB1.out.trans ((HB.out.mono hwB).trans (HB7.out.mono (by have := HB.out.size; omega)))

end Go.Proofs.Ytjknmnmilladlaa
