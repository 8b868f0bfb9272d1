/-
  Walks: the book's right, lay, drop.
-/
import Derived.Test.YtjknmnmilladlaaM2
namespace Go.Proofs.Ytjknmnmilladlaa
open Go.RowKit

def rightOf (n : Int) (s : Slot) : Bool := decide (1 ≤ s.id) && isT s.frm && isT s.to && decide (s.frm < s.to) && decide (1 ≤ s.nodes) && decide (s.nodes ≤ n)

set_option maxHeartbeats 4000000 in
set_option maxRecDepth 100000 in
theorem rightAny {w : World} {bk bm : Nat} {n : Int} {up fr : List Step} {L : List Slot} (h : BookIs w bk bm n up fr L) (s : Slot) :
    Calls Try.prog 33 #[.pointer (some ⟨bk, 0, none⟩), slotV s] w fun e w' => e = .returned (.bool (rightOf n s)) ∧ Below w.heap.size w w' := by
  have c0 := h.c0
  have hlt := h.lt
  clear h
  obtain ⟨id, frm, to, k⟩ := s
  obtain ⟨r, hr⟩ : ∃ r, r = rightOf n ⟨id, frm, to, k⟩ := ⟨_, rfl⟩
  rw [← hr]
  unfold rightOf at hr
  simp only at hr
  unfold slotV
  simp only
  have hcases : (decide (1 ≤ id) = false ∧ r = false) ∨ (decide (1 ≤ id) = true ∧ isT frm = false ∧ r = false) ∨ (decide (1 ≤ id) = true ∧ isT frm = true ∧ isT to = false ∧ r = false) ∨ (decide (1 ≤ id) = true ∧ isT frm = true ∧ isT to = true ∧ decide (frm < to) = false ∧ r = false) ∨
      (decide (1 ≤ id) = true ∧ isT frm = true ∧ isT to = true ∧ decide (frm < to) = true ∧ decide (1 ≤ k) = false ∧ r = false) ∨ (decide (1 ≤ id) = true ∧ isT frm = true ∧ isT to = true ∧ decide (frm < to) = true ∧ decide (1 ≤ k) = true ∧ decide (k ≤ n) = r) := by
    cases h1 : decide (1 ≤ id)
    · exact .inl ⟨rfl, by rw [hr, h1]; rfl⟩
    cases h2 : isT frm
    · exact .inr (.inl ⟨rfl, rfl, by rw [hr, h1, h2]; rfl⟩)
    cases h3 : isT to
    · exact .inr (.inr (.inl ⟨rfl, rfl, rfl, by rw [hr, h1, h2, h3]; rfl⟩))
    cases h4 : decide (frm < to)
    · exact .inr (.inr (.inr (.inl ⟨rfl, rfl, rfl, rfl, by rw [hr, h1, h2, h3, h4]; rfl⟩)))
    cases h5 : decide (1 ≤ k)
    · exact .inr (.inr (.inr (.inr (.inl ⟨rfl, rfl, rfl, rfl, rfl, by rw [hr, h1, h2, h3, h4, h5]; rfl⟩))))
    · exact .inr (.inr (.inr (.inr (.inr ⟨rfl, rfl, rfl, rfl, rfl, by rw [hr, h1, h2, h3, h4, h5]; rfl⟩))))
  clear hr
  rcases hcases with ⟨h1, rfl⟩ | ⟨h1, h2, rfl⟩ | ⟨h1, h2, h3, rfl⟩ | ⟨h1, h2, h3, h4, rfl⟩ | ⟨h1, h2, h3, h4, h5, rfl⟩ | ⟨h1, h2, h3, h4, h5, h6⟩
  · go_enter Try.func33, Try.ntmps33
    go_wp2_with fail
    go_quiet (fail)
    go_wp2_with fail
    go_ret
    exact ⟨rfl, below_drewN ((Below.refl _ _).alloc (Nat.le_refl _) _) _⟩
  · have Kh2 := Lib.hid h2
    clear h2
    go_enter Try.func33, Try.ntmps33
    go_wp2_with fail
    go_quiet ((go_at_call 40; exact Calls.quiet_of_same (clockIsF _ _ Kh2.out)))
    go_wp2_with fail
    go_ret
    exact ⟨rfl, below_drewN ((Below.refl _ _).alloc (Nat.le_refl _) _) _⟩
  · have Kh2 := Lib.hid h2
    clear h2
    have Kh3 := Lib.hid h3
    clear h3
    go_enter Try.func33, Try.ntmps33
    go_wp2_with fail
    go_quiet ((go_at_call 40; first | exact Calls.quiet_of_same (clockIsT _ _ Kh2.out) | exact Calls.quiet_of_same (clockIsF _ _ Kh3.out)))
    go_wp2_with fail
    go_ret
    exact ⟨rfl, below_drewN ((Below.refl _ _).alloc (Nat.le_refl _) _) _⟩
  · have Kh2 := Lib.hid h2
    clear h2
    have Kh3 := Lib.hid h3
    clear h3
    go_enter Try.func33, Try.ntmps33
    go_wp2_with fail
    go_quiet ((go_at_call 40; first | exact Calls.quiet_of_same (clockIsT _ _ Kh2.out) | exact Calls.quiet_of_same (clockIsT _ _ Kh3.out)))
    go_wp2_with fail
    go_ret
    exact ⟨rfl, below_drewN ((Below.refl _ _).alloc (Nat.le_refl _) _) _⟩
  · have Kh2 := Lib.hid h2
    clear h2
    have Kh3 := Lib.hid h3
    clear h3
    go_enter Try.func33, Try.ntmps33
    go_wp2_with fail
    go_quiet ((go_at_call 40; first | exact Calls.quiet_of_same (clockIsT _ _ Kh2.out) | exact Calls.quiet_of_same (clockIsT _ _ Kh3.out)))
    go_wp2_with fail
    go_ret
    exact ⟨rfl, below_drewN ((Below.refl _ _).alloc (Nat.le_refl _) _) _⟩
  · have Kh2 := Lib.hid h2
    clear h2
    have Kh3 := Lib.hid h3
    clear h3
    go_enter Try.func33, Try.ntmps33
    go_wp2_with fail
    go_quiet ((go_at_call 40; first | exact Calls.quiet_of_same (clockIsT _ _ Kh2.out) | exact Calls.quiet_of_same (clockIsT _ _ Kh3.out)))
    go_wp2_with fail
    go_ret
    exact ⟨rfl, below_drewN ((Below.refl _ _).alloc (Nat.le_refl _) _) _⟩

theorem addEq {w : World} {v : Value} {l : List Step} (h : IsSteps w v l) {frm to k ee : Int} {rr : List Step} (he : addErr l frm to k = ee) (hr : addRes l frm to k = rr) :
    Calls Try.prog 44 #[v, .int .i64 frm, .int .i64 to, .int .i64 k] w fun e w' => (∃ u, e = .returned (.tuple #[u, .int .i64 ee]) ∧ OwnSteps w' w.heap.size u rr) ∧ Below w.heap.size w w' := by
  subst he
  subst hr
  exact addAny h frm to k

theorem cell_new (w : World) (cs : Array Value) (t : TypeId) (o : Nat) {u : Value} (h : cs[o]? = some u) : (w.alloc (.cells cs t)).cell? ⟨w.heap.size, o, none⟩ = some u := by
  unfold World.cell?
  rw [heap_alloc_new]
  exact h
theorem cell_old {w : World} (o : Obj) {b x : Nat} {u : Value} (h : w.cell? ⟨b, x, none⟩ = some u) : (w.alloc o).cell? ⟨b, x, none⟩ = some u := by
  have hlt := World.block_lt_of_cell? w _ h
  unfold World.cell? at h ⊢
  rw [heap_alloc_old w o hlt]
  exact h
/-- Behind a call in a drawn region: the cells of the region's S. -/
theorem cell_thru {w w1 : World} (hb : Below w.heap.size w w1) {b x : Nat} {u : Value} (h : w.cell? ⟨b, x, none⟩ = some u) : w1.cell? ⟨b, x, none⟩ = some u :=
  (hb.cell (p := ⟨b, x, none⟩) (World.block_lt_of_cell? w _ h)).trans h

theorem neg_wrap {k : Int} (hk : -10000 ≤ k ∧ k ≤ 10000) : IntKind.i64.wrap (-k) = -k := by
  unfold IntKind.wrap
  simp [IntKind.signed, IntKind.bits]
  omega

set_option maxHeartbeats 4000000 in
set_option maxRecDepth 100000 in
theorem layNo {w : World} {bk bm : Nat} {n : Int} {up fr : List Step} {L : List Slot} (h : BookIs w bk bm n up fr L) (s : Slot) (hk : -10000 ≤ s.nodes ∧ s.nodes ≤ 10000) (he : addErr fr s.frm s.to (-s.nodes) ≠ 0) :
    Calls Try.prog 34 #[.pointer (some ⟨bk, 0, none⟩), slotV s] w fun e w' => e = .returned (.int .i64 (addErr fr s.frm s.to (-s.nodes))) ∧ Below w.heap.size w w' := by
  obtain ⟨id, frm, to, k⟩ := s
  unfold slotV
  simp only at he hk ⊢
  obtain ⟨vf, c2, f2, f3⟩ := h.c2
  have hlt := h.lt
  clear h f3
  have hneg := neg_wrap hk
  generalize hee : addErr fr frm to (-k) = ee at he ⊢
  have hd : (ee == 0) = false := by simpa using he
  have HF := Lib.hid f2; clear f2
  have HE := Lib.hid hee; clear hee
  go_enter Try.func34, Try.ntmps34
  go_wp2_with fail
  go_region_held3 (fun w' => w'.cell? ⟨bk, 2, none⟩ = some vf ∧ w'.cell? ⟨w.heap.size, 1, none⟩ = some (.int .i64 frm) ∧ w'.cell? ⟨w.heap.size, 2, none⟩ = some (.int .i64 to) ∧ w'.cell? ⟨w.heap.size, 3, none⟩ = some (.int .i64 k)) (first | go_keep | exact ⟨k1, k2, k3, k4⟩) ((go_at_call 44; refine (addEq ((HF.out).below (((Below.refl _ _).alloc (Nat.le_refl _) _).drew)) HE.out rfl).mono ?_; rintro e w1 ⟨⟨v, rfl, hv⟩, hb1⟩; have k1 := cell_thru hb1 (cell_old _ c2); have k2 := cell_thru hb1 (cell_new w _ 29 1 rfl); have k3 := cell_thru hb1 (cell_new w _ 29 2 rfl); have k4 := cell_thru hb1 (cell_new w _ 29 3 rfl); have HV := Lib.hid hv; clear hv; have HB := Lib.hid hb1; clear hb1))
  go_wp2_with fail
  go_ret
  exact ⟨rfl, (((Below.refl _ _).alloc (Nat.le_refl _) _).drew).trans (HB.out.mono (by simp))⟩

theorem cell_turned {w w1 : World} {bm : Nat} (ht : w.mapTurned w1 bm) {b x : Nat} {u : Value} (h : w.cell? ⟨b, x, none⟩ = some u) : w1.cell? ⟨b, x, none⟩ = some u := by
  have hlt := World.block_lt_of_cell? w _ h
  refine (World.cell?_of_block (w := w) (ht.grown.block b hlt (fun e => ?_))).trans h
  obtain ⟨es, clock, es', clock', hb, _⟩ := ht
  cases e
  simp [World.cell?, hb] at h
theorem cell_set {w : World} {b o : Nat} {v : Value} {b' o' : Nat} {u : Value} (hn : b' ≠ b ∨ o' ≠ o) (h : w.cell? ⟨b', o', none⟩ = some u) : (w.setCell ⟨b, o, none⟩ v).cell? ⟨b', o', none⟩ = some u := (cell_set_other hn).trans h

def LayPost (w : World) (bk bm : Nat) (n : Int) (up fr : List Step) (L : List Slot) (w' : World) : Prop := BookIs w' bk bm n up fr L ∧ Kept bk bm w w' ∧ ∀ X, X < w.heap.size → AwayB w bk X → AwayB w' bk X

set_option maxHeartbeats 4000000 in
set_option maxRecDepth 100000 in
theorem layYes {w : World} {bk bm : Nat} {n : Int} {up fr : List Step} {L : List Slot} (h : BookIs w bk bm n up fr L) (s : Slot) (hk : -10000 ≤ s.nodes ∧ s.nodes ≤ 10000) (he : addErr fr s.frm s.to (-s.nodes) = 0) (hs : ∀ x ∈ L, x.id ≠ s.id) :
    Calls Try.prog 34 #[.pointer (some ⟨bk, 0, none⟩), slotV s] w fun e w' => e = .returned (.int .i64 0) ∧ LayPost w bk bm n up (addRes fr s.frm s.to (-s.nodes)) (L ++ [s]) w' := by
  obtain ⟨id, frm, to, k⟩ := s
  unfold slotV
  simp only at he hk hs ⊢
  obtain ⟨vf, c2, f2, f3⟩ := h.c2
  have c3 := h.c3
  have hlt := h.lt
  have hne : w.heap.size ≠ bk := by omega
  have hneg := neg_wrap hk
  generalize hrr : addRes fr frm to (-k) = rr
  have HF := Lib.hid f2; clear f2
  have HE := Lib.hid he; clear he
  have HR := Lib.hid hrr; clear hrr
  have HH := Lib.hid h; clear h f3
  have HS := Lib.hid hs; clear hs
  go_enter Try.func34, Try.ntmps34
  go_wp2_with fail
  go_region_held3 (fun w' => w'.cell? ⟨bk, 2, none⟩ = some vf ∧ w'.cell? ⟨w.heap.size, 1, none⟩ = some (.int .i64 frm) ∧ w'.cell? ⟨w.heap.size, 2, none⟩ = some (.int .i64 to) ∧ w'.cell? ⟨w.heap.size, 3, none⟩ = some (.int .i64 k)) (first | go_keep | exact ⟨k1, k2, k3, k4⟩) ((go_at_call 44; refine (addEq ((HF.out).below (((Below.refl _ _).alloc (Nat.le_refl _) _).drew)) HE.out HR.out).mono ?_; rintro e w1 ⟨⟨v, rfl, hv⟩, hb1⟩; obtain ⟨ao, cp, rfl, _, _⟩ := IsRow.shape hv.is; have k0 := cell_thru hb1 (cell_new w _ 29 0 rfl); have k1 := cell_thru hb1 (cell_old _ c2); have k2 := cell_thru hb1 (cell_new w _ 29 1 rfl); have k3 := cell_thru hb1 (cell_new w _ 29 2 rfl); have k4 := cell_thru hb1 (cell_new w _ 29 3 rfl); have k5 := cell_thru hb1 (cell_old _ c3); have HV := Lib.hid hv; clear hv; have HB := Lib.hid hb1; clear hb1))
  have B1 : Below w.heap.size w w1 := (((Below.refl _ _).alloc (Nat.le_refl _) _).drew).trans (HB.out.mono (by simp))
  have K1 := HH.out.below B1
  have g2 := K1.fz 2
  have A1 : Apart bk (.slice ao rr.length cp) := Apart.own HV.out (by simp; omega)
  have K2 := K1.setFree HV.out.is A1
  have HB1 := Lib.hid B1
  have HK2 := Lib.hid K2
  clear B1 K1 K2 A1
  have q0 : (w1.setCell ⟨bk, 2, none⟩ (.slice ao rr.length cp)).cell? ⟨w.heap.size, 0, none⟩ = some (.int .i64 id) := cell_set (.inl hne) k0
  have q1 : (w1.setCell ⟨bk, 2, none⟩ (.slice ao rr.length cp)).cell? ⟨w.heap.size, 1, none⟩ = some (.int .i64 frm) := cell_set (.inl hne) k2
  have q2 : (w1.setCell ⟨bk, 2, none⟩ (.slice ao rr.length cp)).cell? ⟨w.heap.size, 2, none⟩ = some (.int .i64 to) := cell_set (.inl hne) k3
  have q3 : (w1.setCell ⟨bk, 2, none⟩ (.slice ao rr.length cp)).cell? ⟨w.heap.size, 3, none⟩ = some (.int .i64 k) := cell_set (.inl hne) k4
  have q4 : (w1.setCell ⟨bk, 2, none⟩ (.slice ao rr.length cp)).cell? ⟨bk, 3, none⟩ = some (.map (some bm)) := cell_set (.inr (by decide)) k5
  go_wp2_with fail
  have hM := HK2.out.map
  have hM2 : MapIs (w1.setCell ⟨bk, 2, none⟩ (.slice ao rr.length cp)).drew bm L := hM.drew
  obtain ⟨w2, hrun, hm2, ht2⟩ := hM2.put (s := ⟨id, frm, to, k⟩) HS.out
  unfold slotV at hrun
  simp only at hrun
  have HM2 := Lib.hid hm2
  have r0 : w2.cell? ⟨w.heap.size, 0, none⟩ = some (.int .i64 id) := cell_turned ht2 q0
  have r1 : w2.cell? ⟨w.heap.size, 1, none⟩ = some (.int .i64 frm) := cell_turned ht2 q1
  have r2 : w2.cell? ⟨w.heap.size, 2, none⟩ = some (.int .i64 to) := cell_turned ht2 q2
  have r3 : w2.cell? ⟨w.heap.size, 3, none⟩ = some (.int .i64 k) := cell_turned ht2 q3
  have r4 : w2.cell? ⟨bk, 3, none⟩ = some (.map (some bm)) := cell_turned ht2 q4
  have HT2 := Lib.hid ht2
  clear hM hM2 hm2 ht2
  go_region_held3 (fun w' => w'.cell? ⟨bk, 3, none⟩ = some (.map (some bm)) ∧ w'.cell? ⟨w.heap.size, 0, none⟩ = some (.int .i64 id) ∧ w'.cell? ⟨w.heap.size, 1, none⟩ = some (.int .i64 frm) ∧ w'.cell? ⟨w.heap.size, 2, none⟩ = some (.int .i64 to) ∧ w'.cell? ⟨w.heap.size, 3, none⟩ = some (.int .i64 k)) (first | go_keep | exact ⟨q4, q0, q1, q2, q3⟩ | exact ⟨r4, r0, r1, r2, r3⟩) (fail)
  go_wp2_with fail
  go_ret
  refine ⟨rfl, HK2.out.drew.turned HT2.out HM2.out, (((Kept.of_below HB1.out).set 2 _).drew).turned HT2.out, fun X hX hA => ?_⟩
  exact away_lay (w1 := w1.drew) HH.out HB1.out.drew HV.out (by simp) HT2.out hX hA

end Go.Proofs.Ytjknmnmilladlaa
