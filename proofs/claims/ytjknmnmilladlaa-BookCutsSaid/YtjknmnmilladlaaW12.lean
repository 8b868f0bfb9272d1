/-
  Walk: the book's drop.
-/
import Derived.Test.YtjknmnmilladlaaW11
import Derived.Deep.RegionWith
namespace Go.Proofs.Ytjknmnmilladlaa
open Go.RowKit

def without (L : List Slot) (id : Int) : List Slot := L.filter fun x => decide (x.id ≠ id)

set_option maxHeartbeats 4000000 in
set_option maxRecDepth 100000 in
theorem dropAny {w : World} {bk bm : Nat} {n : Int} {up fr : List Step} {L : List Slot} (h : BookIs w bk bm n up fr L) {s : Slot} (hs : s ∈ L) :
    Calls Try.prog 39 #[.pointer (some ⟨bk, 0, none⟩), .int .i64 s.id] w fun e w' => e = .returned (.tuple #[]) ∧ LayPost w bk bm n up (addRes fr s.frm s.to s.nodes) (without L s.id) w' := by
  obtain ⟨id, frm, to, k⟩ := s
  simp only
  generalize hL2 : without L id = L2
  have HL2 := Lib.hid hL2; clear hL2
  obtain ⟨vf, c2, f2, f3⟩ := h.c2
  have c3 := h.c3
  have hlt := h.lt
  have hne : w.heap.size ≠ bk := by omega
  generalize hrr : addRes fr frm to k = rr
  have HF := Lib.hid f2; clear f2
  have HR := Lib.hid hrr; clear hrr
  have HH := Lib.hid h; clear h f3
  have HS := Lib.hid hs; clear hs
  go_enter Try.func39, Try.ntmps39
  go_wp2_with (at_lookup; refine wp_look_yes _ rfl _ _ _ rfl bm L ⟨id, frm, to, k⟩ rfl rfl HH.out.map HS.out ?_; unfold slotV; simp only [Bool.false_eq_true, if_false])
  have d0 : (w.alloc (.cells #[.int .i64 id, .int .i64 frm, .int .i64 to, .int .i64 k] 29)).drew.cell? ⟨bk, 2, none⟩ = some vf := cell_old _ c2
  have d1 : (w.alloc (.cells #[.int .i64 id, .int .i64 frm, .int .i64 to, .int .i64 k] 29)).drew.cell? ⟨w.heap.size, 1, none⟩ = some (.int .i64 frm) := cell_new w _ 29 1 rfl
  have d2 : (w.alloc (.cells #[.int .i64 id, .int .i64 frm, .int .i64 to, .int .i64 k] 29)).drew.cell? ⟨w.heap.size, 2, none⟩ = some (.int .i64 to) := cell_new w _ 29 2 rfl
  have d3 : (w.alloc (.cells #[.int .i64 id, .int .i64 frm, .int .i64 to, .int .i64 k] 29)).drew.cell? ⟨w.heap.size, 3, none⟩ = some (.int .i64 k) := cell_new w _ 29 3 rfl
  have d4 : (w.alloc (.cells #[.int .i64 id, .int .i64 frm, .int .i64 to, .int .i64 k] 29)).drew.cell? ⟨bk, 3, none⟩ = some (.map (some bm)) := cell_old _ c3
  have BW : Below w.heap.size w (w.alloc (.cells #[.int .i64 id, .int .i64 frm, .int .i64 to, .int .i64 k] 29)).drew := ((Below.refl _ _).alloc (Nat.le_refl _) _).drew
  have HBW := Lib.hid BW
  clear BW
  go_region_with ((go_at_call 44; refine (addEq ((HF.out).below HBW.out) rfl HR.out).mono ?_; rintro e w1 ⟨⟨v, rfl, hv⟩, hb1⟩; obtain ⟨ao, cp, rfl, _, _⟩ := IsRow.shape hv.is; have k5 := cell_thru hb1 d4; have B1 : Below w.heap.size w w1 := HBW.out.trans (hb1.mono HBW.out.size); have k1 := cell_thru hb1 d0; have g2 := (HH.out.below B1).fz 2; have HV := Lib.hid hv; clear hv; have HB1 := Lib.hid B1; clear B1; have HB := Lib.hid hb1; clear hb1))
  all_goals (
    have K1 := HH.out.below HB1.out
    have A1 : Apart bk (.slice ao rr.length cp) := Apart.own HV.out (Nat.lt_of_lt_of_le hlt HBW.out.size)
    have K2 := K1.setFree HV.out.is A1
    have HK2 := Lib.hid K2
    clear K1 K2 A1
    go_wp2_with (at_delete; refine wp_del _ rfl _ _ rfl bm L id rfl rfl HK2.out.map ?_; intro w3 hm3 ht3; have HM3 := Lib.hid hm3; have HT3 := Lib.hid ht3; clear hm3 ht3)
    go_end0
    refine ⟨rfl, HK2.out.turned HT3.out (HL2.out ▸ HM3.out), (((Kept.of_below HB1.out).set 2 _)).turned HT3.out, fun X hX hA => ?_⟩
    exact away_lay HH.out HB1.out HV.out HBW.out.size HT3.out hX hA)

end Go.Proofs.Ytjknmnmilladlaa
