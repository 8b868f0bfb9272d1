/-
  Walk: the book's Copy.
-/
import Derived.Test.YtjknmnmilladlaaP18
namespace Go.Proofs.Ytjknmnmilladlaa
open Go.RowKit

theorem own_al {w : World} {B : Nat} {v : Value} {l : List Step} (h : OwnSteps w B v l) (o : Obj) : OwnSteps (w.alloc o) B v l := owns_below h ((Below.refl _ _).alloc (Nat.le_refl _) o)

/-- A book that is laid out of its parts. -/
theorem bookBoxed {wa : World} {cm B : Nat} {n : Int} {up fr : List Step} {v1 v2 : Value} (hm : MapIs wa cm []) (h1 : OwnSteps wa B v1 up) (h2 : OwnSteps wa B v2 fr) :
    BookIs (wa.alloc (.cells #[.int .i64 n, v1, v2, .map (some cm)] 74)) wa.heap.size cm n up fr [] ∧ ∀ X, X < B → AwayB (wa.alloc (.cells #[.int .i64 n, v1, v2, .map (some cm)] 74)) wa.heap.size X := by
  have hb : Below wa.heap.size wa (wa.alloc (.cells #[.int .i64 n, v1, v2, .map (some cm)] 74)) := (Below.refl _ _).alloc (Nat.le_refl _) _
  have e1 := cell_new wa #[.int .i64 n, v1, v2, .map (some cm)] 74 1 rfl
  have e2 := cell_new wa #[.int .i64 n, v1, v2, .map (some cm)] 74 2 rfl
  refine ⟨⟨cell_new wa _ 74 0 rfl, ⟨v1, e1, h1.is.below hb, Apart.of_lt h1.is (Nat.le_refl _)⟩, ⟨v2, e2, h2.is.below hb, Apart.of_lt h2.is (Nat.le_refl _)⟩, cell_new wa _ 74 3 rfl, fun o => frozen_new wa _ 74 o, hm.alloc _⟩, fun X hX x hx => ?_⟩
  rw [e1, e2] at hx
  rcases hx with hx | hx
  · cases hx; exact Apart.own h1 hX
  · cases hx; exact Apart.own h2 hX

/-- The loop's own block is none of the book's. -/
theorem BookIs.farIter {w : World} {bk bm cm R : Nat} {n : Int} {up fr : List Step} {L M left : List Slot} (h : BookIs w bk cm n up fr L) (hR : RangeIs w bm R M left) : some R ≠ some bk ∧ some R ≠ some cm ∧ ∀ g, some R = some g → AwayB w bk g := by
  have hne : bk ≠ R := hR.neR h.c0
  refine ⟨fun e => hne (by cases e; rfl), fun e => ?_, fun g e => ?_⟩
  · cases e
    obtain ⟨es, clock, since, seen, c0, hb, hE, hr, _⟩ := hR
    obtain ⟨es2, c2, hb2, _⟩ := h.map
    rw [hr] at hb2
    cases hb2
  · cases e
    have far : ∀ v l, IsSteps w v l → Apart R v := by
      intro v l hv a n' cap' he hn heq
      obtain ⟨hl, ao, cap, h0, _, _, h3⟩ := hv
      rw [h0] at he
      cases he
      obtain ⟨b, off, e1, hr⟩ := h3 hn
      cases e1
      have hx : (flatS l)[0]? ≠ none := by
        rw [ne_eq, List.getElem?_eq_none_iff, length_flatS]
        omega
      obtain ⟨u, hu⟩ := Option.ne_none_iff_exists'.1 hx
      have h5 := hr 0 u hu
      exact hR.neR h5 heq
    obtain ⟨vu, u1, u2, _⟩ := h.c1
    obtain ⟨vf, f1, f2, _⟩ := h.c2
    intro x hx
    rw [u1, f1] at hx
    rcases hx with hx | hx
    · cases hx; exact far _ _ u2
    · cases hx; exact far _ _ f2

def CopyPost (w : World) (n : Int) (up fr : List Step) (L : List Slot) (e : Ending) (w' : World) : Prop :=
  ∃ ck cm L2, e = .returned (.pointer (some ⟨ck, 0, none⟩)) ∧ L2.Perm L ∧ BookIs w' ck cm n up fr L2 ∧ w.heap.size ≤ ck ∧ w.heap.size ≤ cm ∧ Below w.heap.size w w' ∧ ∀ X, X < w.heap.size → AwayB w' ck X

theorem perm_fresh {L dn x y : List Slot} {s : Slot} (hd : L.Pairwise fun a b => a.id ≠ b.id) (hp : (dn ++ (x ++ s :: y)).Perm L) : ∀ z ∈ dn, z.id ≠ s.id := by
  have h1 := hp.symm.pairwise hd (fun {a b} hab => Ne.symm hab)
  rw [List.pairwise_append] at h1
  exact fun z hz => h1.2.2 z hz s (by simp)

/-- Clone, in whatever world behind w, told as from w. -/
theorem copyClone {w : World} {bk : Nat} {v : Value} {l : List Step} (h : IsSteps w v l) (hl : l.length ≤ 40000) (hlt : bk < w.heap.size) : ∀ wx, Below w.heap.size w wx →
    Calls Try.prog 32 #[v] wx fun e w' => (∃ v', e = .returned v' ∧ OwnSteps w' w.heap.size v' l) ∧ Below wx.heap.size wx w' ∧ Below w.heap.size w w' ∧ ∀ o u, w.cell? ⟨bk, o, none⟩ = some u → w'.cell? ⟨bk, o, none⟩ = some u :=
  fun _ hb => (cloneAny (h.below hb) hl).mono fun _ w' ⟨⟨v', h1, h2⟩, h3⟩ =>
    have ht : Below w.heap.size w w' := hb.trans (h3.mono hb.size)
    ⟨⟨v', h1, h2.mono hb.size⟩, h3, ht, fun o _ hu => (ht.cell (p := ⟨bk, o, none⟩) hlt).trans hu⟩

set_option maxHeartbeats 8000000 in
set_option maxRecDepth 100000 in
theorem copyAny {w : World} {bk bm : Nat} {n : Int} {up fr : List Step} {L : List Slot} (h : BookIs w bk bm n up fr L) (hu : up.length ≤ 40000) (hf : fr.length ≤ 40000) (hd : L.Pairwise fun a b => a.id ≠ b.id) :
    Calls Try.prog 30 #[.pointer (some ⟨bk, 0, none⟩)] w (CopyPost w n up fr L) := by
  obtain ⟨vu, u1, u2, u3⟩ := h.c1
  obtain ⟨vf, f1, f2, f3⟩ := h.c2
  have c0 := h.c0
  have hlt := h.lt
  have HU := Lib.hid (copyClone (bk := bk) u2 hu hlt)
  have HF := Lib.hid (copyClone (bk := bk) f2 hf hlt)
  have HH := Lib.hid h
  have hmm := @run_makeMap Try.prog
  clear u2 u3 f2 f3 h
  go_enter Try.func30, Try.ntmps30
  go_wp2_with fail
  go_region_held3 (fun w' => w'.cell? ⟨bk, 0, none⟩ = some (.int .i64 n) ∧ w'.cell? ⟨bk, 1, none⟩ = some vu ∧ w'.cell? ⟨bk, 2, none⟩ = some vf) (first | go_keep | exact ⟨k4, k5, k6⟩ | exact ⟨k1, k2, k3⟩) (first | (go_at_call 32; refine (HU.out _ (by first | exact HB2.out | exact HB2.out.alloc HB2.out.size _ | exact (Below.refl _ _).drew | exact ((Below.refl w.heap.size w).drew).alloc (Nat.le_refl _) _)).mono ?_; rintro e w1 ⟨⟨v1, rfl, hv1⟩, hr1, hb1, hc1⟩; obtain ⟨ao1, cp1, rfl, _, _⟩ := IsRow.shape hv1.is; have k1 := hc1 _ _ c0; have k2 := hc1 _ _ u1; have k3 := hc1 _ _ f1; have HV1 := Lib.hid hv1; have HB1 := Lib.hid hb1; have HR1 := Lib.hid hr1; clear hv1 hb1 hr1 hc1) | (go_at_call 32; refine (HF.out _ (by first | exact HB1.out | exact HB1.out.alloc HB1.out.size _ | exact (Below.refl _ _).drew | exact ((Below.refl w.heap.size w).drew).alloc (Nat.le_refl _) _)).mono ?_; rintro e w2 ⟨⟨v2, rfl, hv2⟩, hr2, hb2, hc2⟩; obtain ⟨ao2, cp2, rfl, _, _⟩ := IsRow.shape hv2.is; have k4 := hc2 _ _ c0; have k5 := hc2 _ _ u1; have k6 := hc2 _ _ f1; have HV2 := Lib.hid hv2; have HB2 := Lib.hid hb2; have HR2 := Lib.hid hr2; clear hv2 hb2 hr2 hc2))
  · obtain ⟨HN1, HN2⟩ := bookBoxed (n := n) (wa := (w2.alloc (.map #[] 0))) (cm := w2.heap.size) (B := w.heap.size) (MapIs.made w2) (own_al (owns_below HV1.out HR2.out) _) (own_al HV2.out _)
    have hbW : Below w.heap.size w (w2.alloc (.map #[] 0)) := HB2.out.alloc HB2.out.size _
    obtain ⟨W, hW⟩ : ∃ W, W = (w2.alloc (.map #[] 0)).alloc (.cells #[.int .i64 n, .slice ao1 up.length cp1, .slice ao2 fr.length cp2, .map (some (w2.heap.size))] 74) := ⟨_, rfl⟩
    obtain ⟨ck, hckE⟩ : ∃ ck, ck = w2.heap.size + 1 := ⟨_, rfl⟩
    obtain ⟨cm, hcmE⟩ : ∃ cm, cm = w2.heap.size := ⟨_, rfl⟩
    have HC0 : Hid (BookIs W ck cm n up fr []) := Lib.hid (by rw [hW, hckE, hcmE]; rw [show w2.heap.size + 1 = (w2.alloc (.map #[] 0)).heap.size by simp]; exact HN1)
    have HA0 : Hid (∀ X, X < w.heap.size → AwayB W ck X) := Lib.hid (by rw [hW, hckE]; rw [show w2.heap.size + 1 = (w2.alloc (.map #[] 0)).heap.size by simp]; exact HN2)
    have HBW : Hid (Below w.heap.size w W) := Lib.hid (by rw [hW]; exact hbW.alloc hbW.size _)
    have hck : w.heap.size ≤ ck := by rw [hckE]; have := HB2.out.size; omega
    have hcm : w.heap.size ≤ cm := by rw [hcmE]; exact HB2.out.size
    have hbml : bm < w.heap.size := HH.out.map.lt
    rw [← hW, ← hckE]
    rw [← hcmE]
    clear HN1 HN2 hbW hW hckE hcmE k1 k2 k3 k4 k5 k6 u1 f1 c0 HU HF HR1 HR2 HV1 HV2 HB1 HB2
    have HHW := Lib.hid (HH.out.below HBW.out)
    have c3 := HHW.out.c3
    obtain ⟨R, hR⟩ : ∃ R, R = W.heap.size := ⟨_, rfl⟩
    have hlR : w.heap.size ≤ R := by rw [hR]; exact HBW.out.size
    have HR := Lib.hid hR
    have HD := Lib.hid hd
    clear hR hd
    go_wp2_with (at_range; refine wp_range _ rfl _ rfl bm L rfl HHW.out.map ?_; intro w0 hr0 hb0 hs0)
    go_frame
    rw [← HR.out] at hr0
    rw [← HR.out]
    have HB0 := Lib.hid (HBW.out.trans (hb0.mono HBW.out.size))
    have HCC := Lib.hid (HC0.out.below hb0)
    have HAA := Lib.hid (show ∀ X, X < w.heap.size → AwayB w0 ck X from fun X hX => (HA0.out X hX).below hb0 HC0.out.lt)
    have HR0 := Lib.hid hr0
    clear hr0 hb0 hs0 c3
    go_loopw [4] (fun _ wr => ∃ dn left, RangeIs wr bm R L left ∧ (dn ++ left).Perm L ∧ Below w.heap.size w wr ∧ BookIs wr ck cm n up fr dn ∧ ∀ X, X < w.heap.size → AwayB wr ck X) (fun _ wr => wr.rangeLeft bm R)
    case atStart => exact ⟨[], L, HR0.out, List.Perm.refl _, HB0.out, HCC.out, HAA.out⟩
    case round =>
      obtain ⟨dn, left, hRg, hP, hb, hC, hA⟩ := hrel
      have HP := Lib.hid hP
      have HB := Lib.hid hb
      have HCr := Lib.hid hC
      have HAr := Lib.hid hA
      clear hP hb hC hA HR0 HB0 HCC HAA HC0 HA0
      go_wp2_with (at_next; refine wp_next _ rfl _ rfl bm R L left rfl hRg ?_ ?_)
      · intro hl
        subst hl
        have hPL : dn.Perm L := by simpa using HP.out
        have HPL := Lib.hid hPL
        clear hPL hRg
        go_wp2_with fail
        go_ret
        exact ⟨ck, cm, dn, rfl, HPL.out, HCr.out, hck, hcm, HB.out, HAr.out⟩
      · intro s x y wn hl hR1 hg1 hs1 hen
        subst hl
        clear hs1
        have hfar := HCr.out.farIter hRg
        have hCn := HCr.out.grownOwn hg1 hfar.1 hfar.2.1 hfar.2.2
        have hBn : Below w.heap.size w wn := HB.out.grown hg1 HB.out.size (fun g hg => by cases hg; exact hlR)
        have hAn : ∀ X, X < w.heap.size → AwayB wn ck X := fun X hX => (HAr.out X hX).grownOwn HCr.out.lt hg1 hfar.1
        have hfresh := perm_fresh HD.out HP.out
        have HM := Lib.hid (show World.rangeLeft _ bm R = (x ++ s :: y).length from hRg.left_eq)
        have hmeas : (x ++ y).length < (x ++ s :: y).length := by simp
        have HME := Lib.hid hmeas
        have HP1 := Lib.hid (perm_step HP.out)
        obtain ⟨id, f0, t0, q⟩ := s
        unfold slotV at hen
        simp only at hen hfresh
        have hM2 : MapIs (wn.alloc (.cells #[.int .i64 id, .int .i64 f0, .int .i64 t0, .int .i64 q] 29)).drew cm dn := (hCn.map.alloc _).drew
        obtain ⟨w3, hrun, hm3, ht3⟩ := hM2.put (s := ⟨id, f0, t0, q⟩) hfresh
        unfold slotV at hrun
        simp only at hrun
        have q0 : (wn.alloc (.cells #[.int .i64 id, .int .i64 f0, .int .i64 t0, .int .i64 q] 29)).drew.cell? ⟨wn.heap.size, 0, none⟩ = some (.int .i64 id) := cell_new wn _ 29 0 rfl
        have q1 : (wn.alloc (.cells #[.int .i64 id, .int .i64 f0, .int .i64 t0, .int .i64 q] 29)).drew.cell? ⟨wn.heap.size, 1, none⟩ = some (.int .i64 f0) := cell_new wn _ 29 1 rfl
        have q2 : (wn.alloc (.cells #[.int .i64 id, .int .i64 f0, .int .i64 t0, .int .i64 q] 29)).drew.cell? ⟨wn.heap.size, 2, none⟩ = some (.int .i64 t0) := cell_new wn _ 29 2 rfl
        have q3 : (wn.alloc (.cells #[.int .i64 id, .int .i64 f0, .int .i64 t0, .int .i64 q] 29)).drew.cell? ⟨wn.heap.size, 3, none⟩ = some (.int .i64 q) := cell_new wn _ 29 3 rfl
        have q4 : (wn.alloc (.cells #[.int .i64 id, .int .i64 f0, .int .i64 t0, .int .i64 q] 29)).drew.cell? ⟨ck, 3, none⟩ = some (.map (some cm)) := cell_old _ hCn.c3
        have r0 : w3.cell? ⟨wn.heap.size, 0, none⟩ = some (.int .i64 id) := cell_turned ht3 q0
        have r1 : w3.cell? ⟨wn.heap.size, 1, none⟩ = some (.int .i64 f0) := cell_turned ht3 q1
        have r2 : w3.cell? ⟨wn.heap.size, 2, none⟩ = some (.int .i64 t0) := cell_turned ht3 q2
        have r3 : w3.cell? ⟨wn.heap.size, 3, none⟩ = some (.int .i64 q) := cell_turned ht3 q3
        have r4 : w3.cell? ⟨ck, 3, none⟩ = some (.map (some cm)) := cell_turned ht3 q4
        have HC3 := Lib.hid ((hCn.alloc (.cells #[.int .i64 id, .int .i64 f0, .int .i64 t0, .int .i64 q] 29)).drew.turned ht3 hm3)
        have hbmn : some bm ≠ some cm := fun e => by
          cases e
          omega
        have hRn : some R ≠ some cm := hfar.2.1
        have HR3 := Lib.hid ((hR1.alloc (.cells #[.int .i64 id, .int .i64 f0, .int .i64 t0, .int .i64 q] 29)).drew.grown ht3.grown hbmn hRn)
        have hba : Below w.heap.size w (wn.alloc (.cells #[.int .i64 id, .int .i64 f0, .int .i64 t0, .int .i64 q] 29)).drew := (hBn.alloc hBn.size _).drew
        have HB3 := Lib.hid (hba.grown ht3.grown hba.size (fun g hg => by cases hg; exact hcm))
        have HA3 := Lib.hid (show ∀ X, X < w.heap.size → AwayB w3 ck X from fun X hX => ((hAn X hX).below (((Below.refl _ _).alloc (Nat.le_refl _) _).drew) hCn.lt).turned (hCn.alloc (.cells #[.int .i64 id, .int .i64 f0, .int .i64 t0, .int .i64 q] 29)).drew.lt hCn.ne ht3)
        clear hfar hCn hBn hAn hfresh hmeas hM2 hm3 ht3 hbmn hRn hba hRg hR1 hg1
        go_wp2_with fail
        go_region_held3 (fun w' => w'.cell? ⟨ck, 3, none⟩ = some (.map (some cm)) ∧ w'.cell? ⟨wn.heap.size, 0, none⟩ = some (.int .i64 id) ∧ w'.cell? ⟨wn.heap.size, 1, none⟩ = some (.int .i64 f0) ∧ w'.cell? ⟨wn.heap.size, 2, none⟩ = some (.int .i64 t0) ∧ w'.cell? ⟨wn.heap.size, 3, none⟩ = some (.int .i64 q)) (first | go_keep | exact ⟨q4, q0, q1, q2, q3⟩ | exact ⟨r4, r0, r1, r2, r3⟩) (fail)
        go_wp2_with fail
        go_roundw
        case rel => exact ⟨dn ++ [⟨id, f0, t0, q⟩], x ++ y, HR3.out, HP1.out, HB3.out, HC3.out, HA3.out⟩
        case measure =>
          rw [HR3.out.left_eq, HM.out]
          exact HME.out
  · obtain ⟨HN1, HN2⟩ := bookBoxed (n := n) (wa := w2) (cm := w1.heap.size) (B := w.heap.size) ((MapIs.made w1).below HR2.out (by simp)) (owns_below (own_al HV1.out (.map #[] 0)) HR2.out) HV2.out
    have hbW : Below w.heap.size w w2 := HB2.out
    obtain ⟨W, hW⟩ : ∃ W, W = w2.alloc (.cells #[.int .i64 n, .slice ao1 up.length cp1, .slice ao2 fr.length cp2, .map (some (w1.heap.size))] 74) := ⟨_, rfl⟩
    obtain ⟨ck, hckE⟩ : ∃ ck, ck = w2.heap.size := ⟨_, rfl⟩
    obtain ⟨cm, hcmE⟩ : ∃ cm, cm = w1.heap.size := ⟨_, rfl⟩
    have HC0 : Hid (BookIs W ck cm n up fr []) := Lib.hid (by rw [hW, hckE, hcmE]; exact HN1)
    have HA0 : Hid (∀ X, X < w.heap.size → AwayB W ck X) := Lib.hid (by rw [hW, hckE]; exact HN2)
    have HBW : Hid (Below w.heap.size w W) := Lib.hid (by rw [hW]; exact hbW.alloc hbW.size _)
    have hck : w.heap.size ≤ ck := by rw [hckE]; exact HB2.out.size
    have hcm : w.heap.size ≤ cm := by rw [hcmE]; exact HB1.out.size
    have hbml : bm < w.heap.size := HH.out.map.lt
    rw [← hW, ← hckE]
    rw [← hcmE]
    clear HN1 HN2 hbW hW hckE hcmE k1 k2 k3 k4 k5 k6 u1 f1 c0 HU HF HR1 HR2 HV1 HV2 HB1 HB2
    have HHW := Lib.hid (HH.out.below HBW.out)
    have c3 := HHW.out.c3
    obtain ⟨R, hR⟩ : ∃ R, R = W.heap.size := ⟨_, rfl⟩
    have hlR : w.heap.size ≤ R := by rw [hR]; exact HBW.out.size
    have HR := Lib.hid hR
    have HD := Lib.hid hd
    clear hR hd
    go_wp2_with (at_range; refine wp_range _ rfl _ rfl bm L rfl HHW.out.map ?_; intro w0 hr0 hb0 hs0)
    go_frame
    rw [← HR.out] at hr0
    rw [← HR.out]
    have HB0 := Lib.hid (HBW.out.trans (hb0.mono HBW.out.size))
    have HCC := Lib.hid (HC0.out.below hb0)
    have HAA := Lib.hid (show ∀ X, X < w.heap.size → AwayB w0 ck X from fun X hX => (HA0.out X hX).below hb0 HC0.out.lt)
    have HR0 := Lib.hid hr0
    clear hr0 hb0 hs0 c3
    go_loopw [4] (fun _ wr => ∃ dn left, RangeIs wr bm R L left ∧ (dn ++ left).Perm L ∧ Below w.heap.size w wr ∧ BookIs wr ck cm n up fr dn ∧ ∀ X, X < w.heap.size → AwayB wr ck X) (fun _ wr => wr.rangeLeft bm R)
    case atStart => exact ⟨[], L, HR0.out, List.Perm.refl _, HB0.out, HCC.out, HAA.out⟩
    case round =>
      obtain ⟨dn, left, hRg, hP, hb, hC, hA⟩ := hrel
      have HP := Lib.hid hP
      have HB := Lib.hid hb
      have HCr := Lib.hid hC
      have HAr := Lib.hid hA
      clear hP hb hC hA HR0 HB0 HCC HAA HC0 HA0
      go_wp2_with (at_next; refine wp_next _ rfl _ rfl bm R L left rfl hRg ?_ ?_)
      · intro hl
        subst hl
        have hPL : dn.Perm L := by simpa using HP.out
        have HPL := Lib.hid hPL
        clear hPL hRg
        go_wp2_with fail
        go_ret
        exact ⟨ck, cm, dn, rfl, HPL.out, HCr.out, hck, hcm, HB.out, HAr.out⟩
      · intro s x y wn hl hR1 hg1 hs1 hen
        subst hl
        clear hs1
        have hfar := HCr.out.farIter hRg
        have hCn := HCr.out.grownOwn hg1 hfar.1 hfar.2.1 hfar.2.2
        have hBn : Below w.heap.size w wn := HB.out.grown hg1 HB.out.size (fun g hg => by cases hg; exact hlR)
        have hAn : ∀ X, X < w.heap.size → AwayB wn ck X := fun X hX => (HAr.out X hX).grownOwn HCr.out.lt hg1 hfar.1
        have hfresh := perm_fresh HD.out HP.out
        have HM := Lib.hid (show World.rangeLeft _ bm R = (x ++ s :: y).length from hRg.left_eq)
        have hmeas : (x ++ y).length < (x ++ s :: y).length := by simp
        have HME := Lib.hid hmeas
        have HP1 := Lib.hid (perm_step HP.out)
        obtain ⟨id, f0, t0, q⟩ := s
        unfold slotV at hen
        simp only at hen hfresh
        have hM2 : MapIs (wn.alloc (.cells #[.int .i64 id, .int .i64 f0, .int .i64 t0, .int .i64 q] 29)).drew cm dn := (hCn.map.alloc _).drew
        obtain ⟨w3, hrun, hm3, ht3⟩ := hM2.put (s := ⟨id, f0, t0, q⟩) hfresh
        unfold slotV at hrun
        simp only at hrun
        have q0 : (wn.alloc (.cells #[.int .i64 id, .int .i64 f0, .int .i64 t0, .int .i64 q] 29)).drew.cell? ⟨wn.heap.size, 0, none⟩ = some (.int .i64 id) := cell_new wn _ 29 0 rfl
        have q1 : (wn.alloc (.cells #[.int .i64 id, .int .i64 f0, .int .i64 t0, .int .i64 q] 29)).drew.cell? ⟨wn.heap.size, 1, none⟩ = some (.int .i64 f0) := cell_new wn _ 29 1 rfl
        have q2 : (wn.alloc (.cells #[.int .i64 id, .int .i64 f0, .int .i64 t0, .int .i64 q] 29)).drew.cell? ⟨wn.heap.size, 2, none⟩ = some (.int .i64 t0) := cell_new wn _ 29 2 rfl
        have q3 : (wn.alloc (.cells #[.int .i64 id, .int .i64 f0, .int .i64 t0, .int .i64 q] 29)).drew.cell? ⟨wn.heap.size, 3, none⟩ = some (.int .i64 q) := cell_new wn _ 29 3 rfl
        have q4 : (wn.alloc (.cells #[.int .i64 id, .int .i64 f0, .int .i64 t0, .int .i64 q] 29)).drew.cell? ⟨ck, 3, none⟩ = some (.map (some cm)) := cell_old _ hCn.c3
        have r0 : w3.cell? ⟨wn.heap.size, 0, none⟩ = some (.int .i64 id) := cell_turned ht3 q0
        have r1 : w3.cell? ⟨wn.heap.size, 1, none⟩ = some (.int .i64 f0) := cell_turned ht3 q1
        have r2 : w3.cell? ⟨wn.heap.size, 2, none⟩ = some (.int .i64 t0) := cell_turned ht3 q2
        have r3 : w3.cell? ⟨wn.heap.size, 3, none⟩ = some (.int .i64 q) := cell_turned ht3 q3
        have r4 : w3.cell? ⟨ck, 3, none⟩ = some (.map (some cm)) := cell_turned ht3 q4
        have HC3 := Lib.hid ((hCn.alloc (.cells #[.int .i64 id, .int .i64 f0, .int .i64 t0, .int .i64 q] 29)).drew.turned ht3 hm3)
        have hbmn : some bm ≠ some cm := fun e => by
          cases e
          omega
        have hRn : some R ≠ some cm := hfar.2.1
        have HR3 := Lib.hid ((hR1.alloc (.cells #[.int .i64 id, .int .i64 f0, .int .i64 t0, .int .i64 q] 29)).drew.grown ht3.grown hbmn hRn)
        have hba : Below w.heap.size w (wn.alloc (.cells #[.int .i64 id, .int .i64 f0, .int .i64 t0, .int .i64 q] 29)).drew := (hBn.alloc hBn.size _).drew
        have HB3 := Lib.hid (hba.grown ht3.grown hba.size (fun g hg => by cases hg; exact hcm))
        have HA3 := Lib.hid (show ∀ X, X < w.heap.size → AwayB w3 ck X from fun X hX => ((hAn X hX).below (((Below.refl _ _).alloc (Nat.le_refl _) _).drew) hCn.lt).turned (hCn.alloc (.cells #[.int .i64 id, .int .i64 f0, .int .i64 t0, .int .i64 q] 29)).drew.lt hCn.ne ht3)
        clear hfar hCn hBn hAn hfresh hmeas hM2 hm3 ht3 hbmn hRn hba hRg hR1 hg1
        go_wp2_with fail
        go_region_held3 (fun w' => w'.cell? ⟨ck, 3, none⟩ = some (.map (some cm)) ∧ w'.cell? ⟨wn.heap.size, 0, none⟩ = some (.int .i64 id) ∧ w'.cell? ⟨wn.heap.size, 1, none⟩ = some (.int .i64 f0) ∧ w'.cell? ⟨wn.heap.size, 2, none⟩ = some (.int .i64 t0) ∧ w'.cell? ⟨wn.heap.size, 3, none⟩ = some (.int .i64 q)) (first | go_keep | exact ⟨q4, q0, q1, q2, q3⟩ | exact ⟨r4, r0, r1, r2, r3⟩) (fail)
        go_wp2_with fail
        go_roundw
        case rel => exact ⟨dn ++ [⟨id, f0, t0, q⟩], x ++ y, HR3.out, HP1.out, HB3.out, HC3.out, HA3.out⟩
        case measure =>
          rw [HR3.out.left_eq, HM.out]
          exact HME.out
  · obtain ⟨HN1, HN2⟩ := bookBoxed (n := n) (wa := w2) (cm := w.heap.size) (B := w.heap.size) (((MapIs.made w.drew).below HR1.out (by simp)).below HR2.out (by have h9 : w.drew.heap.size = w.heap.size := rfl; have := HR1.out.size; simp at this; omega)) (owns_below HV1.out HR2.out) HV2.out
    have hbW : Below w.heap.size w w2 := HB2.out
    obtain ⟨W, hW⟩ : ∃ W, W = w2.alloc (.cells #[.int .i64 n, .slice ao1 up.length cp1, .slice ao2 fr.length cp2, .map (some (w.heap.size))] 74) := ⟨_, rfl⟩
    obtain ⟨ck, hckE⟩ : ∃ ck, ck = w2.heap.size := ⟨_, rfl⟩
    obtain ⟨cm, hcmE⟩ : ∃ cm, cm = w.heap.size := ⟨_, rfl⟩
    have HC0 : Hid (BookIs W ck cm n up fr []) := Lib.hid (by rw [hW, hckE, hcmE]; exact HN1)
    have HA0 : Hid (∀ X, X < w.heap.size → AwayB W ck X) := Lib.hid (by rw [hW, hckE]; exact HN2)
    have HBW : Hid (Below w.heap.size w W) := Lib.hid (by rw [hW]; exact hbW.alloc hbW.size _)
    have hck : w.heap.size ≤ ck := by rw [hckE]; exact HB2.out.size
    have hcm : w.heap.size ≤ cm := by rw [hcmE]; exact Nat.le_refl _
    have hbml : bm < w.heap.size := HH.out.map.lt
    rw [← hW, ← hckE]
    rw [← hcmE]
    clear HN1 HN2 hbW hW hckE hcmE k1 k2 k3 k4 k5 k6 u1 f1 c0 HU HF HR1 HR2 HV1 HV2 HB1 HB2
    have HHW := Lib.hid (HH.out.below HBW.out)
    have c3 := HHW.out.c3
    obtain ⟨R, hR⟩ : ∃ R, R = W.heap.size := ⟨_, rfl⟩
    have hlR : w.heap.size ≤ R := by rw [hR]; exact HBW.out.size
    have HR := Lib.hid hR
    have HD := Lib.hid hd
    clear hR hd
    go_wp2_with (at_range; refine wp_range _ rfl _ rfl bm L rfl HHW.out.map ?_; intro w0 hr0 hb0 hs0)
    go_frame
    rw [← HR.out] at hr0
    rw [← HR.out]
    have HB0 := Lib.hid (HBW.out.trans (hb0.mono HBW.out.size))
    have HCC := Lib.hid (HC0.out.below hb0)
    have HAA := Lib.hid (show ∀ X, X < w.heap.size → AwayB w0 ck X from fun X hX => (HA0.out X hX).below hb0 HC0.out.lt)
    have HR0 := Lib.hid hr0
    clear hr0 hb0 hs0 c3
    go_loopw [4] (fun _ wr => ∃ dn left, RangeIs wr bm R L left ∧ (dn ++ left).Perm L ∧ Below w.heap.size w wr ∧ BookIs wr ck cm n up fr dn ∧ ∀ X, X < w.heap.size → AwayB wr ck X) (fun _ wr => wr.rangeLeft bm R)
    case atStart => exact ⟨[], L, HR0.out, List.Perm.refl _, HB0.out, HCC.out, HAA.out⟩
    case round =>
      obtain ⟨dn, left, hRg, hP, hb, hC, hA⟩ := hrel
      have HP := Lib.hid hP
      have HB := Lib.hid hb
      have HCr := Lib.hid hC
      have HAr := Lib.hid hA
      clear hP hb hC hA HR0 HB0 HCC HAA HC0 HA0
      go_wp2_with (at_next; refine wp_next _ rfl _ rfl bm R L left rfl hRg ?_ ?_)
      · intro hl
        subst hl
        have hPL : dn.Perm L := by simpa using HP.out
        have HPL := Lib.hid hPL
        clear hPL hRg
        go_wp2_with fail
        go_ret
        exact ⟨ck, cm, dn, rfl, HPL.out, HCr.out, hck, hcm, HB.out, HAr.out⟩
      · intro s x y wn hl hR1 hg1 hs1 hen
        subst hl
        clear hs1
        have hfar := HCr.out.farIter hRg
        have hCn := HCr.out.grownOwn hg1 hfar.1 hfar.2.1 hfar.2.2
        have hBn : Below w.heap.size w wn := HB.out.grown hg1 HB.out.size (fun g hg => by cases hg; exact hlR)
        have hAn : ∀ X, X < w.heap.size → AwayB wn ck X := fun X hX => (HAr.out X hX).grownOwn HCr.out.lt hg1 hfar.1
        have hfresh := perm_fresh HD.out HP.out
        have HM := Lib.hid (show World.rangeLeft _ bm R = (x ++ s :: y).length from hRg.left_eq)
        have hmeas : (x ++ y).length < (x ++ s :: y).length := by simp
        have HME := Lib.hid hmeas
        have HP1 := Lib.hid (perm_step HP.out)
        obtain ⟨id, f0, t0, q⟩ := s
        unfold slotV at hen
        simp only at hen hfresh
        have hM2 : MapIs (wn.alloc (.cells #[.int .i64 id, .int .i64 f0, .int .i64 t0, .int .i64 q] 29)).drew cm dn := (hCn.map.alloc _).drew
        obtain ⟨w3, hrun, hm3, ht3⟩ := hM2.put (s := ⟨id, f0, t0, q⟩) hfresh
        unfold slotV at hrun
        simp only at hrun
        have q0 : (wn.alloc (.cells #[.int .i64 id, .int .i64 f0, .int .i64 t0, .int .i64 q] 29)).drew.cell? ⟨wn.heap.size, 0, none⟩ = some (.int .i64 id) := cell_new wn _ 29 0 rfl
        have q1 : (wn.alloc (.cells #[.int .i64 id, .int .i64 f0, .int .i64 t0, .int .i64 q] 29)).drew.cell? ⟨wn.heap.size, 1, none⟩ = some (.int .i64 f0) := cell_new wn _ 29 1 rfl
        have q2 : (wn.alloc (.cells #[.int .i64 id, .int .i64 f0, .int .i64 t0, .int .i64 q] 29)).drew.cell? ⟨wn.heap.size, 2, none⟩ = some (.int .i64 t0) := cell_new wn _ 29 2 rfl
        have q3 : (wn.alloc (.cells #[.int .i64 id, .int .i64 f0, .int .i64 t0, .int .i64 q] 29)).drew.cell? ⟨wn.heap.size, 3, none⟩ = some (.int .i64 q) := cell_new wn _ 29 3 rfl
        have q4 : (wn.alloc (.cells #[.int .i64 id, .int .i64 f0, .int .i64 t0, .int .i64 q] 29)).drew.cell? ⟨ck, 3, none⟩ = some (.map (some cm)) := cell_old _ hCn.c3
        have r0 : w3.cell? ⟨wn.heap.size, 0, none⟩ = some (.int .i64 id) := cell_turned ht3 q0
        have r1 : w3.cell? ⟨wn.heap.size, 1, none⟩ = some (.int .i64 f0) := cell_turned ht3 q1
        have r2 : w3.cell? ⟨wn.heap.size, 2, none⟩ = some (.int .i64 t0) := cell_turned ht3 q2
        have r3 : w3.cell? ⟨wn.heap.size, 3, none⟩ = some (.int .i64 q) := cell_turned ht3 q3
        have r4 : w3.cell? ⟨ck, 3, none⟩ = some (.map (some cm)) := cell_turned ht3 q4
        have HC3 := Lib.hid ((hCn.alloc (.cells #[.int .i64 id, .int .i64 f0, .int .i64 t0, .int .i64 q] 29)).drew.turned ht3 hm3)
        have hbmn : some bm ≠ some cm := fun e => by
          cases e
          omega
        have hRn : some R ≠ some cm := hfar.2.1
        have HR3 := Lib.hid ((hR1.alloc (.cells #[.int .i64 id, .int .i64 f0, .int .i64 t0, .int .i64 q] 29)).drew.grown ht3.grown hbmn hRn)
        have hba : Below w.heap.size w (wn.alloc (.cells #[.int .i64 id, .int .i64 f0, .int .i64 t0, .int .i64 q] 29)).drew := (hBn.alloc hBn.size _).drew
        have HB3 := Lib.hid (hba.grown ht3.grown hba.size (fun g hg => by cases hg; exact hcm))
        have HA3 := Lib.hid (show ∀ X, X < w.heap.size → AwayB w3 ck X from fun X hX => ((hAn X hX).below (((Below.refl _ _).alloc (Nat.le_refl _) _).drew) hCn.lt).turned (hCn.alloc (.cells #[.int .i64 id, .int .i64 f0, .int .i64 t0, .int .i64 q] 29)).drew.lt hCn.ne ht3)
        clear hfar hCn hBn hAn hfresh hmeas hM2 hm3 ht3 hbmn hRn hba hRg hR1 hg1
        go_wp2_with fail
        go_region_held3 (fun w' => w'.cell? ⟨ck, 3, none⟩ = some (.map (some cm)) ∧ w'.cell? ⟨wn.heap.size, 0, none⟩ = some (.int .i64 id) ∧ w'.cell? ⟨wn.heap.size, 1, none⟩ = some (.int .i64 f0) ∧ w'.cell? ⟨wn.heap.size, 2, none⟩ = some (.int .i64 t0) ∧ w'.cell? ⟨wn.heap.size, 3, none⟩ = some (.int .i64 q)) (first | go_keep | exact ⟨q4, q0, q1, q2, q3⟩ | exact ⟨r4, r0, r1, r2, r3⟩) (fail)
        go_wp2_with fail
        go_roundw
        case rel => exact ⟨dn ++ [⟨id, f0, t0, q⟩], x ++ y, HR3.out, HP1.out, HB3.out, HC3.out, HA3.out⟩
        case measure =>
          rw [HR3.out.left_eq, HM.out]
          exact HME.out

end Go.Proofs.Ytjknmnmilladlaa
