/-
  Walk: the book's Slots.
-/
import Derived.Test.YtjknmnmilladlaaW34
namespace Go.Proofs.Ytjknmnmilladlaa
open Go.RowKit

theorem Try.info29 : (Try.prog.info? 29).map (fun i => (i.zero, i.size, i.bytes)) = some (some (.agg #[.int .i64 0, .int .i64 0, .int .i64 0, .int .i64 0]), 4, 32) := by kernel_rfl

theorem own_slot1 {w : World} {B m : Nat} {v : Value} {l : List Slot} {s : Slot} (h : w.ownsRow B 29 4 v m (flatL l ++ slotCells s)) : OwnSlots w B v (l ++ [s]) := by
  have hm : m = l.length + 1 := by have := h.1; simp [length_flatL, slotCells] at this; omega
  subst hm
  unfold OwnSlots
  rw [flatL_append, List.length_append]
  have e : flatL [s] = slotCells s := by simp [flatL]
  rw [e]
  exact h

/-- the slots by their numbers -/
def SortedOf (L L2 : List Slot) : Prop := L2.Perm L ∧ L2.Pairwise fun a b => a.id ≤ b.id
def SlotsPost (w : World) (L : List Slot) (e : Ending) (w' : World) : Prop := ∃ v L2, e = .returned v ∧ SortedOf L L2 ∧ OwnSlots w' w.heap.size v L2 ∧ Below w.heap.size w w'

set_option maxHeartbeats 8000000 in
set_option maxRecDepth 100000 in
theorem slotsAny {w : World} {bk bm : Nat} {n : Int} {up fr : List Step} {L : List Slot} (h : BookIs w bk bm n up fr L) (hid : ∀ s ∈ L, 1 ≤ s.id ∧ s.id ≤ 9223372036854775807) (hL : L.length ≤ 9000) :
    Calls Try.prog 22 #[.pointer (some ⟨bk, 0, none⟩)] w (SlotsPost w L) := by
  have HH := Lib.hid h
  have HI := Lib.hid hid
  have c3 := h.c3
  have hlt := h.lt
  clear h hid
  obtain ⟨i0, hi, hz0, hz1, hz2⟩ := info_parts Try.info29
  obtain ⟨R, hR⟩ : ∃ R, R = w.heap.size := ⟨_, rfl⟩
  have HR := Lib.hid hR
  go_enter Try.func22, Try.ntmps22
  go_wp2_with (at_range; refine wp_range _ rfl _ rfl bm L rfl HH.out.map ?_; intro w0 hr0 hb0 hs0)
  go_frame
  rw [← hR] at hr0
  rw [← hR]
  have HB0 := Lib.hid hb0
  have HR0 := Lib.hid hr0
  clear hb0 hs0 hr0 hR
  go_loopw [3] (fun o wr => ∃ dn left, RangeIs wr bm R L left ∧ (dn ++ left).Perm L ∧ Below w.heap.size w wr ∧ OwnSlots wr w.heap.size o dn) (fun _ wr => wr.rangeLeft bm R)
  case atStart => exact ⟨[], L, HR0.out, List.Perm.refl _, HB0.out, World.ownsRow_nil _ _ _ _⟩
  case round =>
    obtain ⟨dn, left, hRg, hP, hb, hown⟩ := hrel
    have HP := Lib.hid hP
    have HBb := Lib.hid hb
    have HOw := Lib.hid hown
    have hdl := hP.length_eq
    rw [List.length_append] at hdl
    clear hP hown hb HB0 HR0
    go_wp2_with (at_next; refine wp_next _ rfl _ rfl bm R L left rfl hRg ?_ ?_)
    · intro hl
      subst hl
      have hPL : dn.Perm L := by simpa using HP.out
      have HPL := Lib.hid hPL
      have HS := Lib.hid (sortSlots HOw.out (fun s hs => HI.out s (hPL.subset hs)) (by simp at hdl; omega))
      clear hPL hRg hdl
      go_wp2_with fail
      refine (HS.out).mono ?_
      rintro e w2 ⟨rfl, ⟨L2, p1, p2, p3⟩, hg2⟩
      have HO2 := Lib.hid p3
      have HSO := Lib.hid (show SortedOf L L2 from ⟨p1.trans HPL.out, p2⟩)
      have HB2 := Lib.hid (HBb.out.grown hg2 HBb.out.size (fun g hg => (World.ownsRow.lt HOw.out g hg).1))
      clear p1 p2 p3 hg2
      go_wp2_with fail
      go_ret
      exact ⟨_, L2, rfl, HSO.out, HO2.out, HB2.out⟩
    · intro s x y w1 hl hR1 hg1 hs1 hen
      subst hl
      clear hs1
      have HM := Lib.hid (show World.rangeLeft _ bm R = (x ++ s :: y).length from hRg.left_eq)
      have hmeas : (x ++ y).length < (x ++ s :: y).length := by simp
      have HME := Lib.hid hmeas
      have HP1 := Lib.hid (perm_step HP.out)
      have HB1 := Lib.hid (HBb.out.grown hg1 HBb.out.size (fun k hk => by cases hk; rw [HR.out]; exact Nat.le_refl _))
      have hne := own_ne HOw.out hRg
      have HO1 := Lib.hid (World.ownsRow.kept HOw.out hg1 (.inr hne.1))
      have HR1 := Lib.hid hR1
      have hl1 : w.heap.size ≤ w1.heap.size := HB1.out.size
      have HNE := Lib.hid hne
      obtain ⟨id, f0, t0, q⟩ := s
      unfold slotV at hen
      simp only at hen
      have hdn : dn.length ≤ 9000 := by simp at hdl; omega
      obtain ⟨dl, hdln⟩ : ∃ dl, dl = dn.length := ⟨_, rfl⟩
      rw [← hdln] at hdn HO1
      have HDL := Lib.hid hdln
      clear hRg hR1 hg1 hmeas hne hdl hdln
      go_wp2_with (at_builtin; refine wpList_append_own _ rfl (.tmp 17) (.tmp 19) 52 rfl w.heap.size 29 i0 _ 4 32 Try.underlying52 hi hz0 hz1 hz2 rfl (by decide) _ _ _ rfl (by exact (HO1.out.alloc _).alloc _) ⟨w1.heap.size + 1, 0, none⟩ 1 1 [.int .i64 id, .int .i64 f0, .int .i64 t0, .int .i64 q] rfl rfl (news_at _ _ (by simp) #[.int .i64 id, .int .i64 f0, .int .i64 t0, .int .i64 q] 29) (by simp [Value.oneCell']) (by unfold maxLen; omega) (by omega) (by simp; omega) ?_)
      intro v' w3 hown3 hgrow hnil
      have HO3 := Lib.hid hown3
      have HG := Lib.hid hgrow
      clear hown3 hnil hgrow
      go_wp2_with fail
      go_roundw
      case rel =>
        have hB3 : Below w.heap.size w w3 := ((HB1.out.alloc hl1 _).alloc (by simp; omega) _).grown HG.out (by simp; omega) (fun g hg => ((World.ownsRow.lt HO1.out) g hg).1)
        exact ⟨dn ++ [⟨id, f0, t0, q⟩], x ++ y, ((HR1.out.alloc _).alloc _).grown HG.out (fun e => HNE.out.2 e.symm) (fun e => HNE.out.1 e.symm), HP1.out, hB3, own_slot1 HO3.out⟩
      case measure =>
        have h1 : RangeIs w3 bm R L (x ++ y) := ((HR1.out.alloc _).alloc _).grown HG.out (fun e => HNE.out.2 e.symm) (fun e => HNE.out.1 e.symm)
        rw [h1.left_eq, HM.out]
        exact HME.out

end Go.Proofs.Ytjknmnmilladlaa
