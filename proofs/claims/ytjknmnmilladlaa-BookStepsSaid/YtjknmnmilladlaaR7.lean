/-
  Walks of the reference (layer 11): room, Steps.
-/
import Derived.Test.YtjknmnmilladlaaR6
namespace Go.Proofs.Ytjknmnmilladlaa
open Go.RowKit

/-- A reference book that lies boxed in block B. -/
structure RBox (w : World) (B : Nat) (n : Int) (vu vs : Value) (up : List Step) (S : List Slot) : Prop where
  lt : B < w.heap.size
  c0 : w.cell? ⟨B, 0, none⟩ = some (.int .i64 n)
  c1 : w.cell? ⟨B, 1, none⟩ = some vu
  c2 : w.cell? ⟨B, 2, none⟩ = some vs
  u : IsSteps w vu up
  s : IsSlots w vs S

theorem RBox.below {w w' : World} {B : Nat} {n : Int} {vu vs : Value} {up : List Step} {S : List Slot} (h : RBox w B n vu vs up S) (hB : Below w.heap.size w w') : RBox w' B n vu vs up S :=
  ⟨Nat.lt_of_lt_of_le h.lt hB.size, (hB.cell (p := ⟨B, 0, none⟩) h.lt).trans h.c0, (hB.cell (p := ⟨B, 1, none⟩) h.lt).trans h.c1, (hB.cell (p := ⟨B, 2, none⟩) h.lt).trans h.c2, h.u.below hB, h.s.below hB⟩
theorem RBox.new {w : World} {n : Int} {vu vs : Value} {up : List Step} {S : List Slot} (hu : IsSteps w vu up) (hs : IsSlots w vs S) : RBox (w.alloc (.cells #[.int .i64 n, vu, vs] 59)) w.heap.size n vu vs up S :=
  ⟨by simp, cell_new w _ 59 0 rfl, cell_new w _ 59 1 rfl, cell_new w _ 59 2 rfl, hu.below ((Below.refl _ _).alloc (Nat.le_refl _) _), hs.below ((Below.refl _ _).alloc (Nat.le_refl _) _)⟩

/-- What the walks ask of a reference book. -/
structure Fine (n : Int) (up : List Step) (S : List Slot) : Prop where
  n2 : n ≤ 10000
  u : Valid up
  l : S.length ≤ 9000
  r : ∀ s ∈ S, rightOf n s = true

theorem Fine.nodes {n : Int} {up : List Step} {S : List Slot} (h : Fine n up S) : ∀ s ∈ S, 1 ≤ s.nodes ∧ s.nodes ≤ 10000 := by
  intro s hs
  have h1 := h.r s hs
  have h2 := h.n2
  simp [rightOf] at h1
  omega
theorem Fine.times {n : Int} {up : List Step} {S : List Slot} (h : Fine n up S) : ∀ t, t = 0 ∨ t ∈ stepT up ++ slotT S → isT t = true := by
  rintro t (rfl | ht)
  · decide
  · rcases List.mem_append.1 ht with h1 | h1
    · unfold stepT at h1
      rw [List.mem_map] at h1
      obtain ⟨s, hs, rfl⟩ := h1
      obtain ⟨i, hi, rfl⟩ := List.getElem_of_mem hs
      have := h.u.time i hi
      rw [stepAt up i hi]
      exact isT_iff.2 this
    · unfold slotT at h1
      rw [List.mem_flatMap] at h1
      obtain ⟨s, hs, h2⟩ := h1
      have h3 := h.r s hs
      simp [rightOf] at h3
      simp at h2
      rcases h2 with rfl | rfl
      · simp [h3]
      · simp [h3]

def RoomOf (up : List Step) (S : List Slot) : Prop := ∀ t, t ∈ 0 :: (stepT up ++ slotT S) → loadOf S t ≤ atOf up t

set_option maxHeartbeats 8000000 in
set_option maxRecDepth 100000 in
theorem refRoom {w : World} {vu vs : Value} {n : Int} {up : List Step} {S : List Slot} (hu : IsSteps w vu up) (hs : IsSlots w vs S) (hf : Fine n up S) (r : Bool) (hr : r = true ↔ RoomOf up S) :
    Calls Try.prog 69 #[.agg #[.int .i64 n, vu, vs]] w fun e w' => e = .returned (.bool r) ∧ Below w.heap.size w w' := by
  have hbx := RBox.new (n := n) hu hs
  have hBB := (Below.refl w.heap.size w).alloc (Nat.le_refl _) (.cells #[.int .i64 n, vu, vs] 59)
  have hsz : (w.alloc (.cells #[.int .i64 n, vu, vs] 59)).heap.size = w.heap.size + 1 := by simp
  have HT := Lib.hid (refTimesB n hbx.u hf.u.pos hf.u.len hbx.s hf.l)
  have k0 := hbx.c0
  have k1 := hbx.c1
  have k2 := hbx.c2
  have HBX := Lib.hid hbx
  have HBB := Lib.hid hBB
  have HF := Lib.hid hf
  have HR := Lib.hid hr
  have HSZ := Lib.hid hsz
  obtain ⟨au, cu, rfl, _, _⟩ := hu.shape
  obtain ⟨az, cz, rfl, _, _⟩ := hs.shape
  clear hu hs hf hr hbx hBB hsz
  go_enter Try.func69, Try.ntmps69
  go_wp2_with fail
  refine (HT.out).mono ?_
  rintro e w1 ⟨⟨v3, ts, rfl, ho3, _hri, hmem, hlen⟩, hb1⟩
  clear _hri
  have HX1 := Lib.hid (HBX.out.below hb1)
  have HB1 := Lib.hid (HBB.out.trans (hb1.mono (by rw [HSZ.out]; exact Nat.le_succ _)))
  have HTM := Lib.hid hmem
  have hpos : 0 < ts.length := List.length_pos_of_mem ((hmem 0).2 (Or.inl rfl))
  obtain ⟨b9, o9, c9, rfl, q1, q2, q3, C9⟩ := intAtV ho3.is hpos
  obtain ⟨M, hM⟩ : ∃ M, M = ts.length := ⟨_, rfl⟩
  rw [← hM] at q1 C9 hpos hlen
  rw [← hM]
  have HC9 := Lib.hid C9
  have HM := Lib.hid hM
  obtain ⟨B, hB⟩ : ∃ B, B = w.heap.size := ⟨_, rfl⟩
  rw [← hB] at HX1 ⊢
  clear ho3 hb1 hmem C9 hM k0 k1 k2 hB HT HBX HBB
  go_wp2_with fail
  go_loopw [4] (fun v4 wr => ∃ q : Nat, q ≤ M ∧ v4 = .int .i64 q ∧ Below w1.heap.size w1 wr ∧ ∀ j, j < q → loadOf S (ts.getD j default) ≤ atOf up (ts.getD j default)) (fun v4 _ => M - (intOf v4).toNat)
  case atStart => exact ⟨0, by omega, rfl, Below.refl _ _, by omega⟩
  case round =>
    obtain ⟨q, hq, rfl, hb, hall⟩ := hrel
    have HB := Lib.hid hb
    have HALL := Lib.hid hall
    have hX := HX1.out.below hb
    by_cases hqM : q < M
    · obtain ⟨t, et, gt⟩ := HC9.out q hqM
      have hqq : (q : Int) < M := by omega
      have htm : t ∈ ts := by
        rw [← et, List.getD_eq_getElem?_getD, List.getElem?_eq_getElem (by rw [← HM.out]; exact hqM)]
        exact List.getElem_mem _
      have hit := HF.out.times t ((HTM.out t).1 htm)
      have HET := Lib.hid et
      have HTT := Lib.hid htm
      have k0 := After.cell hX.lt hX.c0
      have k1 := After.cell hX.lt hX.c1
      have k2 := After.cell hX.lt hX.c2
      have k3 := After.cell (Nat.lt_of_lt_of_le q3 hb.size) ((hb.cell (p := ⟨b9, o9 + q, none⟩) q3).trans gt)
      have HTK := Lib.hid (show ∀ p : After wr, _ from fun p => refTaken (w := p.wld) (vu := .slice au up.length cu) n (hX.s.below p.prop) HF.out.l HF.out.nodes t)
      have HAT := Lib.hid (show ∀ p : After wr, _ from fun p => refAt (w := p.wld) (hX.u.below p.prop) HF.out.u t hit)
      have HX := Lib.hid hX
      clear hb hall hX et gt htm hit
      generalize hld : loadOf S t = ld at *
      generalize hat : atOf up t = at1 at *
      have HLD := Lib.hid hld
      have HA1 := Lib.hid hat
      clear hld hat
      by_cases hc : at1 < ld
      · have hrr : r = false := by
          rw [← Bool.not_eq_true, HR.out]
          intro h
          have h1 := (HTM.out t).1 HTT.out
          have := h t (by rcases h1 with h1 | h1; exact h1 ▸ List.mem_cons_self; exact List.mem_cons_of_mem _ h1)
          rw [HLD.out, HA1.out] at this
          omega
        subst hrr
        go_wp2_with fail
        refine wp_region_quiet_after (by kernel_rfl) (by kernel_rfl) ?_
        repeat (go_big_quiet_step ((first | (go_at_call 71; exact after_of (HTK.out _)) | (go_at_call 67; exact after_of (HAT.out _)))))
        refine wpQuiet_nil ?_
        intro wq hC
        have hwq := after_out hC
        clear hC k0 k1 k2 k3
        have HQ := Lib.hid hwq
        clear hwq
        go_wp2_with fail
        go_ret
        exact ⟨rfl, HB1.out.trans ((HB.out.trans (HQ.out.mono HB.out.size)).mono HB1.out.size)⟩
      · have dc : decide (at1 < ld) = false := by simpa using hc
        go_wp2_with fail
        refine wp_region_quiet_after (by kernel_rfl) (by kernel_rfl) ?_
        repeat (go_big_quiet_step ((first | (go_at_call 71; exact after_of (HTK.out _)) | (go_at_call 67; exact after_of (HAT.out _)))))
        refine wpQuiet_nil ?_
        intro wq hC
        have hwq := after_out hC
        clear hC k0 k1 k2 k3
        have HQ := Lib.hid hwq
        clear hwq
        go_wp2_with fail
        go_roundw
        case rel =>
          refine ⟨q + 1, by omega, by go_num, HB.out.trans (HQ.out.mono HB.out.size), fun j hj => ?_⟩
          by_cases h : j = q
          · subst h
            rw [HET.out, HLD.out, HA1.out]
            omega
          · exact HALL.out j (by omega)
        case measure => simp [intOf]; omega
    · obtain rfl : q = M := by omega
      have hd : decide ((q : Int) < q) = false := by simp
      have hrr : r = true := by
        rw [HR.out]
        intro t ht
        have h1 : t ∈ ts := (HTM.out t).2 (by rcases List.mem_cons.1 ht with h | h; exact Or.inl h; exact Or.inr h)
        obtain ⟨j, hj, rfl⟩ := List.getElem_of_mem h1
        have := hall j (by rw [HM.out]; exact hj)
        rw [List.getD_eq_getElem?_getD, List.getElem?_eq_getElem hj] at this
        exact this
      subst hrr
      clear hall hb hX
      go_wp2_with fail
      go_ret
      exact ⟨rfl, HB1.out.trans (HB.out.mono HB1.out.size)⟩

end Go.Proofs.Ytjknmnmilladlaa
