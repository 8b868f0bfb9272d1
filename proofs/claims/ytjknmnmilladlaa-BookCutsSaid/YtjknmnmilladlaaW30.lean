/-
  Walk: the law's done. (Printed by gen30.py.)
-/
import Derived.Test.YtjknmnmilladlaaW29
namespace Go.Proofs.Ytjknmnmilladlaa
open Go.RowKit

def doV (d : Do) : Value := .agg #[.int .i64 d.kind, .int .i64 d.s.id, .int .i64 d.s.frm, .int .i64 d.s.to, .int .i64 d.s.nodes]

theorem opost_of {w w1 w2 : World} {bk bm : Nat} {n : Int} {up fr : List Step} {L : List Slot} {d : Do} {err : Int} {up2 fr2 : List Step} {L2 : List Slot} (hb : Below w.heap.size w w1) (hd : DoStep n up fr L d [] err up2 fr2 L2) (hk : BookIs w2 bk bm n up2 fr2 L2) (hK : Kept bk bm w1 w2) :
    OPost w bk bm n up fr L d (.returned (.tuple #[.slice none 0 0, .int .i64 err])) w2 :=
  ⟨_, _, _, _, _, _, rfl, isInts_nil _, hd, hk, (Kept.of_below hb).trans hK⟩

set_option maxHeartbeats 4000000 in
set_option maxRecDepth 100000 in
theorem done1 {w : World} {bk bm : Nat} {n : Int} {up fr : List Step} {L : List Slot} (h : BookIs w bk bm n up fr L) (hI : Inv n up fr L) (d : Do) (hd : d.kind = 1) :
    Calls Try.prog 18 #[.pointer (some ⟨bk, 0, none⟩), doV d] w (OPost w bk bm n up fr L d) := by
  have HT := Lib.hid (takeAll (h.alloc (.cells #[.int .i64 d.kind, .int .i64 d.s.id, .int .i64 d.s.frm, .int .i64 d.s.to, .int .i64 d.s.nodes] 46)) hI d hd)
  obtain ⟨kd, id, f0, t0, q⟩ := d
  simp only at hd HT
  unfold doV slotV at *
  simp only at HT ⊢
  have e1 : (kd == 1) = true := by simpa using hd
  have HB0 := Lib.hid ((Below.refl w.heap.size w).alloc (Nat.le_refl _) (.cells #[.int .i64 kd, .int .i64 id, .int .i64 f0, .int .i64 t0, .int .i64 q] 46))
  clear h hI hd
  go_enter Try.func18, Try.ntmps18
  go_wp2_with fail
  refine (HT.out).mono ?_
  rintro e w1 ⟨err, up2, fr2, L2, rfl, hd2, hk2, hK2⟩
  have H2 := Lib.hid (opost_of HB0.out hd2 hk2 hK2)
  clear hd2 hk2 hK2
  go_wp2_with fail
  go_ret2
  exact H2.out

set_option maxHeartbeats 4000000 in
set_option maxRecDepth 100000 in
theorem done3 {w : World} {bk bm : Nat} {n : Int} {up fr : List Step} {L : List Slot} (h : BookIs w bk bm n up fr L) (hI : Inv n up fr L) (d : Do) (hd : d.kind = 3) :
    Calls Try.prog 18 #[.pointer (some ⟨bk, 0, none⟩), doV d] w (OPost w bk bm n up fr L d) := by
  have HT := Lib.hid (cutAll (h.alloc (.cells #[.int .i64 d.kind, .int .i64 d.s.id, .int .i64 d.s.frm, .int .i64 d.s.to, .int .i64 d.s.nodes] 46)) hI d hd)
  obtain ⟨kd, id, f0, t0, q⟩ := d
  simp only at hd HT
  unfold doV at *
  simp only at HT ⊢
  have e1 : (kd == 1) = false := by simp; omega
  have e2 : (kd == 2) = false := by simp; omega
  have e3 : (kd == 3) = true := by simpa using hd
  have HB0 := Lib.hid ((Below.refl w.heap.size w).alloc (Nat.le_refl _) (.cells #[.int .i64 kd, .int .i64 id, .int .i64 f0, .int .i64 t0, .int .i64 q] 46))
  clear h hI hd
  go_enter Try.func18, Try.ntmps18
  go_wp2_with fail
  refine (HT.out).mono ?_
  rintro e w1 ⟨err, up2, fr2, L2, rfl, hd2, hk2, hK2⟩
  have H2 := Lib.hid (opost_of HB0.out hd2 hk2 hK2)
  clear hd2 hk2 hK2
  go_wp2_with fail
  go_ret2
  exact H2.out

set_option maxHeartbeats 4000000 in
set_option maxRecDepth 100000 in
theorem doneM {w : World} {bk bm : Nat} {n : Int} {up fr : List Step} {L : List Slot} (h : BookIs w bk bm n up fr L) (hI : Inv n up fr L) (d : Do) (d1 : d.kind ≠ 1) (d2 : d.kind ≠ 2) (d3 : d.kind ≠ 3) (d5 : d.kind ≠ 5) :
    Calls Try.prog 18 #[.pointer (some ⟨bk, 0, none⟩), doV d] w (OPost w bk bm n up fr L d) := by
  have HT := Lib.hid (moveAll (h.alloc (.cells #[.int .i64 d.kind, .int .i64 d.s.id, .int .i64 d.s.frm, .int .i64 d.s.to, .int .i64 d.s.nodes] 46)) hI d d1 d2 d3 d5)
  obtain ⟨kd, id, f0, t0, q⟩ := d
  simp only at d1 d2 d3 d5 HT
  unfold doV at *
  simp only at HT ⊢
  have e1 : (kd == 1) = false := by simpa using d1
  have e2 : (kd == 2) = false := by simpa using d2
  have e3 : (kd == 3) = false := by simpa using d3
  have e5 : (kd == 5) = false := by simpa using d5
  have HB0 := Lib.hid ((Below.refl w.heap.size w).alloc (Nat.le_refl _) (.cells #[.int .i64 kd, .int .i64 id, .int .i64 f0, .int .i64 t0, .int .i64 q] 46))
  clear h hI d1 d2 d3 d5
  go_enter Try.func18, Try.ntmps18
  go_wp2_with fail
  refine (HT.out).mono ?_
  rintro e w1 ⟨err, up2, fr2, L2, rfl, hd2, hk2, hK2⟩
  have H2 := Lib.hid (opost_of HB0.out hd2 hk2 hK2)
  clear hd2 hk2 hK2
  go_wp2_with fail
  go_ret2
  exact H2.out

set_option maxHeartbeats 4000000 in
set_option maxRecDepth 100000 in
theorem done5 {w : World} {bk bm : Nat} {n : Int} {up fr : List Step} {L : List Slot} (h : BookIs w bk bm n up fr L) (hI : Inv n up fr L) (d : Do) (hd : d.kind = 5) :
    Calls Try.prog 18 #[.pointer (some ⟨bk, 0, none⟩), doV d] w (OPost w bk bm n up fr L d) := by
  have HT := Lib.hid (outAll (h.alloc (.cells #[.int .i64 d.kind, .int .i64 d.s.id, .int .i64 d.s.frm, .int .i64 d.s.to, .int .i64 d.s.nodes] 46)) hI d hd)
  obtain ⟨kd, id, f0, t0, q⟩ := d
  simp only at hd HT
  unfold doV at *
  simp only at HT ⊢
  have e1 : (kd == 1) = false := by simp; omega
  have e2 : (kd == 2) = false := by simp; omega
  have e3 : (kd == 3) = false := by simp; omega
  have e5 : (kd == 5) = true := by simpa using hd
  have HB0 := Lib.hid ((Below.refl w.heap.size w).alloc (Nat.le_refl _) (.cells #[.int .i64 kd, .int .i64 id, .int .i64 f0, .int .i64 t0, .int .i64 q] 46))
  clear h hI hd
  go_enter Try.func18, Try.ntmps18
  go_wp2_with fail
  refine (HT.out).mono ?_
  rintro e w1 ⟨v, ids, err, up2, fr2, L2, rfl, hv, hd2, hk2, hK2⟩
  have H2 : Hid (OPost w bk bm n up fr L ⟨kd, id, f0, t0, q⟩ (.returned (.tuple #[v, .int .i64 err])) w1) := Lib.hid ⟨_, _, _, _, _, _, rfl, hv, hd2, hk2, (Kept.of_below HB0.out).trans hK2⟩
  clear hv hd2 hk2 hK2
  go_wp2_with fail
  go_ret2
  exact H2.out

set_option maxHeartbeats 4000000 in
set_option maxRecDepth 100000 in
theorem done2 {w : World} {bk bm : Nat} {n : Int} {up fr : List Step} {L : List Slot} (h : BookIs w bk bm n up fr L) (d : Do) (hd : d.kind = 2) :
    Calls Try.prog 18 #[.pointer (some ⟨bk, 0, none⟩), doV d] w (OPost w bk bm n up fr L d) := by
  have hb2 : BookIs ((w.alloc (.cells #[.int .i64 d.kind, .int .i64 d.s.id, .int .i64 d.s.frm, .int .i64 d.s.to, .int .i64 d.s.nodes] 46)).alloc (.cells #[.int .i64 d.s.id] 3)) bk bm n up fr L := (h.alloc _).alloc _
  have hlt := h.lt
  have hvi : IsInts ((w.alloc (.cells #[.int .i64 d.kind, .int .i64 d.s.id, .int .i64 d.s.frm, .int .i64 d.s.to, .int .i64 d.s.nodes] 46)).alloc (.cells #[.int .i64 d.s.id] 3)) (.slice (some ⟨w.heap.size + 1, 0, none⟩) 1 1) [d.s.id] := by
    have hs : (w.alloc (.cells #[.int .i64 d.kind, .int .i64 d.s.id, .int .i64 d.s.frm, .int .i64 d.s.to, .int .i64 d.s.nodes] 46)).heap.size = w.heap.size + 1 := by simp
    rw [← hs]
    exact (World.ownsRow_lit (e := 3) (size := 1) (w.alloc (.cells #[.int .i64 d.kind, .int .i64 d.s.id, .int .i64 d.s.frm, .int .i64 d.s.to, .int .i64 d.s.nodes] 46)) #[.int .i64 d.s.id] 1 (Nat.le_refl _) (by unfold maxLen; omega) rfl |> fun hx => (show OwnInts _ _ _ [d.s.id] from hx).is)
  have hap : Apart bk (.slice (some ⟨w.heap.size + 1, 0, none⟩) 1 1) := by
    intro a n' c' hv _ he
    cases hv
    have he2 : w.heap.size + 1 = bk := he
    omega
  have HT := Lib.hid (freeOne hb2 hd hvi hap)
  obtain ⟨kd, id, f0, t0, q⟩ := d
  simp only at hd HT
  unfold doV at *
  simp only at HT ⊢
  have e1 : (kd == 1) = false := by simp; omega
  have e2 : (kd == 2) = true := by simpa using hd
  have HB0 := Lib.hid ((Below.refl w.heap.size w).alloc (Nat.le_refl _) (.cells #[.int .i64 kd, .int .i64 id, .int .i64 f0, .int .i64 t0, .int .i64 q] 46))
  have HB1 := Lib.hid (HB0.out.alloc (by simp) (.cells #[.int .i64 id] 3))
  clear h hd hb2 hvi hap
  go_enter Try.func18, Try.ntmps18
  go_wp2_with fail
  refine (HT.out).mono ?_
  rintro e w1 ⟨err, up2, fr2, L2, rfl, hd2, hk2, hK2⟩
  have H2 := Lib.hid (opost_of HB1.out hd2 hk2 hK2)
  clear hd2 hk2 hK2
  go_wp2_with fail
  go_ret2
  exact H2.out

theorem doneAny {w : World} {bk bm : Nat} {n : Int} {up fr : List Step} {L : List Slot} (h : BookIs w bk bm n up fr L) (hI : Inv n up fr L) (d : Do) :
    Calls Try.prog 18 #[.pointer (some ⟨bk, 0, none⟩), doV d] w (OPost w bk bm n up fr L d) := by
  by_cases d1 : d.kind = 1
  · exact done1 h hI d d1
  by_cases d2 : d.kind = 2
  · exact done2 h d d2
  by_cases d3 : d.kind = 3
  · exact done3 h hI d d3
  by_cases d5 : d.kind = 5
  · exact done5 h hI d d5
  exact doneM h hI d d1 d2 d3 d5

end Go.Proofs.Ytjknmnmilladlaa
